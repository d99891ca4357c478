/- draw's turns: contract. Conditions: a sketch that is drawn whole, its block, that lie in memory and read so. -/
import Derived.Test.YtoiflofhcmjpoaaGreatD9RingOk
open List renaming mem_singleton→Qa,replicate→Qc,getElem_range→Qd,ext_getElem→Qf,getElem_map→Qg,getD→Qh,getElem_set→Qj
open Int renaming toNat_natCast→Qb
open Nat renaming le_refl→Qe,zero_le→Qk,mod_lt→Ql,zero_add→Qm
open Go.Value renaming int→Qi,slice→Qn
open Option renaming some→Qo
open Or renaming inr→Qp
-- READS ONLY
namespace Go.Proofs.YtoiflofhcmjpoaaGreat
open Go.RowKit Go.Maps
def fC (g:Plain.Gr) (b:Plain.Pt) (aa:List (List Int)) (N j:Nat):List Cell:=(List.range N).map fun v:Nat=>Cell.row (if Plain.bG g b v j=[] then [] else Plain.first (Plain.az aa v))
theorem Ge (g:Plain.Gr) (b:Plain.Pt) (aa:List (List Int)) (N:Nat):fC g b aa N 0=Qc N (Cell.row []):=by
 unfold fC;have:(fun v:Nat=>Cell.row (if Plain.bG g b v 0=[] then [] else Plain.first (Plain.az aa v)))=fun _=>Cell.row []:=by funext v;rw[Plain.lM,if_pos rfl]
 rw[this,List.map_const',List.length_range]
theorem Cs {g:Plain.Gr} {b:Plain.Pt} {aa:List (List Int)} {N j v:Nat} (hv:v<N):(fC g b aa N j)[v]?=some (.row (if Plain.bG g b v j=[] then [] else Plain.first (Plain.az aa v))):=by
 unfold fC;rw[List.getElem?_map,List.getElem?_range hv];rfl
theorem yy {g:Plain.Gr} {b:Plain.Pt} {aa:List (List Int)} {N j v:Nat} (hj:j<b.ah.length) (_hv:v<N) (ht:g.tail (b.ah.getD j 0)=v):(fC g b aa N j).set v (.row (Plain.first (Plain.az aa v)))=fC g b aa N (j+1):=by
 refine Qf (by simp[fC]) fun i h1 h2=>?_;have hi:i<N:=by simpa[fC] using h2
 rw[Qj];simp only[fC,Qg,Qd];rw[Plain.pq hj,ht];by_cases e1:v=i
 ·subst e1
  rw[if_pos rfl,if_pos rfl,if_neg (by simp)]
 have OR:¬ (v:Int)=(i:Int):=by omega
 rw[if_neg e1,if_neg OR]
theorem EC {g:Plain.Gr} {b:Plain.Pt} {aa:List (List Int)} {N j v:Nat} (hj:j<b.ah.length) (hv:v<N) (ht:g.tail (b.ah.getD j 0)=v) (h:Plain.bG g b v j≠[]):fC g b aa N j=fC g b aa N (j+1):=by
 rw[<-yy hj hv ht];refine Qf (by simp[fC]) fun i h1 h2=>?_;rw[Qj];by_cases e1:v=i
 ·subst e1
  rw[if_pos rfl];simp only[fC,Qg,Qd];rw[if_neg h]
 rw[if_neg e1]
theorem IW {g:Plain.Gr} {b:Plain.Pt} {aa:List (List Int)} {N:Nat} (ht:Plain.aR g b aa) (hN:g.n=N):fC g b aa N b.ah.length=(aa.map Plain.first).map Cell.row:=by
 have hl:=ht.len;refine Qf (by simp[fC];omega) fun i h1 h2=>?_;have hi:i<N:=by simpa[fC] using h1
 have hit:i<aa.length:=by omega
 simp only[fC,Qg,Qd];have Yy:Plain.az aa (i:Int)=aa[i]:=by unfold Plain.az;rw[Qb];simp[Qh,hit]
 rw[Plain.nk,Yy];by_cases e:Plain.aF g b i=[]
 ·rw[if_pos e]
  have:aa[i]=[]:=by
   refine List.eq_nil_iff_forall_not_mem.2 fun d hd=>?_;have h3:=(ht.mem i (by omega) (by omega) d).1 (by rw[Yy];exact hd);have:d∈Plain.aF g b i:=Plain.bg.2 h3;rw[e] at this;cases this
  rw[this];rfl
 rw[if_neg e]
namespace Plain
theorem Su {F:List (List Int)} {k:Nat} (_hk:k<F.length) (L:List Int):lu F (k+1) L=mA (F.getD k []) (F.getD k []).length (lu F k L):=rfl
end Plain
theorem xX {w:World} {tb N v:Nat} {ts:List Value} {cs:List Cell} {l:List Int} {x:Int} (h:bu w tb 25 1 (.slice (some ⟨tb,0,none⟩) N N) N ts cs) (hv:v<N) (hc:cs[v]?=some (.row l)) (hx:aU x) (hl:l.length+1<4294967296) :
  ∃ va vc mg l8 w2,w.cell? ⟨tb,v,none⟩=some (.slice va l.length vc)/\(Builtin.append_ #[25,25] 25 #[.slice va l.length vc,.slice (some ⟨w.heap.size,0,none⟩) 1 1]).run Tryz.prog (w.alloc (.cells #[.int .i64 x] 3))=.ok (.slice mg (l.length+1) l8) w2 /\
   w2.cell? ⟨tb,v,none⟩=some (.slice va l.length vc)/\w2.frozen? ⟨tb,v,none⟩=false /\
   (∃ ts',bu (w2.setCell ⟨tb,v,none⟩ (.slice mg (l.length+1) l8)) tb 25 1 (.slice (some ⟨tb,0,none⟩) N N) N ts' (cs.set v (.row (l++[x])))) /\
   ∀ w0:World,ag [] w0 w->w0.heap.size=tb->ag [] w0 (w2.setCell ⟨tb,v,none⟩ (.slice mg (l.length+1) l8)):=by
 have sW:=h.cells;obtain⟨va,vc,mg,l8,w2,p1,p2,p3,p4,p5,p6,p7,p8,-⟩:=kI (q:=v) (x:=x) h (by decide) (Nat.le_of_lt (h.out.lt tb rfl).2) (by rw[sW];omega) hc hx hl;refine⟨va,vc,mg,l8,w2,p1,p2,p3,p4,⟨_,p5⟩,fun w0 h0 hs=>h0.trans p8 fun b hb=>Qp ?_⟩;rw[hs];rcases List.mem_cons.1 hb with q | q
 ·rw[q];exact Qe _
 exact (h.kind (k:=v) (by rw[sW];omega) (by rw[p7];simpa[aE] using q)).1
theorem NY {α:Type} (l:List α) (i:Nat) (a c:α):(l.set i a).set i c=l.set i c:=by simp
set_option maxRecDepth 100000 in
set_option maxHeartbeats 8000000 in
theorem Ks (w0 w:World) (sb ob N:Nat) (vE fv rv vb:Value) (xs ys:List Value) (g:Plain.Gr) (b:Plain.Pt) (s:Plain.Sk) (aa:List (List Int)) (hO:Dd w0 w sb ob N g vE fv rv xs ys s) (hF:Plain.eE g b aa s.ak) (hp:fL w vb b) :
  Calls Tryz.prog 85 #[.pointer (some ⟨sb,0,none⟩),vb] w fun e w'=>∃ tb ts,e=.returned (.slice (some ⟨tb,0,none⟩) N N)/\bu w' w.heap.size 25 1 (.slice (some ⟨tb,0,none⟩) N N) N ts ((aa.map Plain.first).map Cell.row)/\ag [] w w':=by
 have HB:=lh hO.base;have yc:=lh hO.ak;have HF:=lh hF;have XG:=lh hO.base.wL;have fZ:=lh hO.base.wL.small;have q0:=hO.base.wL.c0;have q1:=hO.base.wL.c1;have q3:=hO.base.q3;obtain⟨eo,aa8,AL,-⟩:=XG.out.gr;simp only[Value.agg.injEq,Array.mk.injEq,List.cons.injEq,true_and,and_true] at AL;subst AL;obtain⟨fo,fc,Es⟩:=hO.ak.out |> bk;subst Es;obtain⟨pv,pe,rfl,wB,dm⟩:=hp;have GX:=lh dm;have YU:=lh wB;obtain⟨bo,bc,rfl,-,-,qQ⟩:=dm;obtain⟨ao,ac,rfl,-,-,-⟩:=wB;have iQ:=lh (show ag [] w (w.alloc (.cells #[.slice ao b.v.length ac,.slice bo b.e.length bc] 27)) from (show ag [] w (w.alloc (.cells #[.slice ao b.v.length ac,.slice bo b.e.length bc] 27)) from ((ag.refl [] w).alloc _)));have dk:=heap_alloc_new w (.cells #[.slice ao b.v.length ac,.slice bo b.e.length bc] 27);have HX:=lh (fun (w2:World) (eh:ag [] (w.alloc (.cells #[.slice ao b.v.length ac,.slice bo b.e.length bc] 27)) w2)=>(⟨eh.c ((cell_of_row _ _ 0 _ _ _ dk).trans rfl),eh.c ((cell_of_row _ _ 1 _ _ _ dk).trans rfl),by have hz:=eh.size;simpa using hz⟩:w2.cell? ⟨w.heap.size,0,none⟩=some (.slice ao b.v.length ac)/\w2.cell? ⟨w.heap.size,1,none⟩=some (.slice bo b.e.length bc)/\w.heap.size+1<=w2.heap.size));clear dk;have Gc:=lh (show (w.alloc (.cells #[.slice ao b.v.length ac,.slice bo b.e.length bc] 27)).heap.size=w.heap.size+1 by simp);obtain⟨x0,x1,-⟩:=HX.out _ (ag.refl _ _);have lR:g.e.length<=1024:=fZ.out.2;have hNN:N<=1024:=fZ.out.1;have T8:s.ak.length<=1026:=by
  have h1:=hF.sO;have h2:=Plain.Pt.ay hF.pe;have h3:=eT (Plain.Pt.aA hF.pe).2.2.1;omega
 have N5:0<=g.n:=by rw[hO.base.n];omega
 clear hO hF;replace q0:=iQ.out.c q0;replace q1:=iQ.out.c q1;replace q3:=iQ.out.c q3
 go_enter Tryz.func85,Tryz.ntmps85
 go_wp2_with (at_make;refine vG bW rfl _ _ rfl (B:=w.heap.size) (n:=2*g.e.length) (by show Qi .i64 (2*(g.e.length:Int))=_;congr 1) (by show Qi .i64 (2*(g.e.length:Int))=_;congr 1) iQ.out.size (by omega) ?_;intro w2 h2 c2;have H2:=lh (pn h2 (by omega));have C2:=lh c2;clear h2 c2;replace q0:=C2.out.c q0;replace q3:=C2.out.c q3;clear q1)
 have jq:=iQ.out.size;have nO:(w.alloc (.cells #[.slice ao b.v.length ac,.slice bo b.e.length bc] 27)).heap.size=w.heap.size+1:=by simp
 obtain⟨ab,qi⟩:∃ n,w.heap.size+1=n:=⟨_,rfl⟩;have HAB:=lh qi;rw[nO,qi] at H2;rw[qi];have HXB:=lh (fun wr (h:ag [] _ wr)=>HX.out wr h);have xv:=iQ.out;have HZ:=lh (nO.trans qi);clear x0 x1 jq nO HX iQ;have iQ:=lh xv;generalize w.alloc (.cells #[.slice ao b.v.length ac,.slice bo b.e.length bc] 27)=w1 at *;obtain⟨M,hM⟩:∃ M,2*g.e.length=M:=⟨_,rfl⟩;rw[hM] at H2 ⊢;have oh:=lh (yc.out.fresh (xv.t C2.out));have nI:M<=2048:=by omega
 have O2:=lh (show ∀ d∈b.ah,0<=d/\d.toNat<M from fun d hd=>by
  obtain⟨i,hi,e⟩:=Plain.bN (Plain.aw.1 hd);have:=Plain.bX (Plain.Pt.aA HF.out.pe).2.2.1 hi;omega)
 have Di:=lh (show ∀ wr,ag [ab] w2 wr->∀ i,i<s.ak.length->∃ u0 fz c1,wr.cell? ⟨(fo.getD ⟨0,0,none⟩).block,i*2,none⟩=some (.slice u0 (s.ak.getD i []).length c1)/\wr.cell? ⟨(fo.getD ⟨0,0,none⟩).block,i*2+1,none⟩=some (.slice (some ⟨fz,0,none⟩) N N)/\fo=some ⟨(fo.getD ⟨0,0,none⟩).block,0,none⟩/\aj wr w0.heap.size (.slice u0 (s.ak.getD i []).length c1) (s.ak.getD i [])/\∀ b∈(Qn u0 (s.ak.getD i []).length c1).ownBlock.toList,b≠ab from fun wr hw i hi=>by
  have yS:=yc.out.fresh xv;have sW:=yS.len;obtain⟨fb,fcc,efv⟩:=cD yS.out (by omega);simp only[Qn.injEq,true_and] at efv;obtain⟨rfl,rfl⟩:=efv;have akw:∀ b,bp w1 b 158->b ∉ [ab]:=fun b hb=>by
   rw[Qa];intro e;have:=hb.lt;rw[HZ.out] at this;omega
  have abN:∀ {v:Value} {l:List Int},aj w1 w0.heap.size v l->∀ b∈v.ownBlock.toList,b ∉ [ab]:=fun hr b hb=>by
   rw[Qa];intro e;have:=(hr.low b hb).2;rw[HZ.out] at this;omega
  have uJ:ag [ab] w1 wr:=(C2.out.mono (by simp)).trans hw (fun j hj=>Or.inl hj);have hr:=yS.row i hi;obtain⟨fz,e1,-⟩:=yS.has i hi;have k0:=yS.cell (k:=2*i) (by omega);have k1:=yS.cell (k:=2*i+1) (by omega);rw[e1] at k1;obtain⟨u0,c1,e0⟩:=hr.shape;rw[e0] at k0 hr;have ad9:=akw fb (bE yS.out rfl);rw[Nat.mul_comm 2 i] at k0 k1;exact⟨u0,fz,c1,uJ.cell k0 ad9,uJ.cell k1 ad9,rfl,hr.aD uJ (abN hr),fun b hb e=>abN hr b hb (by simp[e])⟩)
 have Pe:=lh (show ∀ i,i<s.ak.length->∀ d∈s.ak.getD i [],0<=d/\d.toNat<M from fun i hi d hd=>O2.out d (HF.out.all.mem_iff.1 (List.mem_flatten.2 ⟨_,by simp[Qh,hi],hd⟩)));have G9:=lh (show ∀ i,i<s.ak.length->(s.ak.getD i []).length<=2048 from fun i hi=>by
  have h1:=Plain.jd (HF.out.simple (s.ak.getD i []) (by simp[Qh,hi]));have:=Plain.gy (N:=2048) h1 fun u hu=>by
   have:=Pe.out i hi u hu;omega
  exact this)
 clear xv qi
 go_loopw [29] (fun c wr=>∃ k:Nat,k<=s.ak.length/\c=.int .i64 k/\aj wr w.heap.size (.slice (some ⟨ab,0,none⟩) M M) (Plain.lu s.ak k (Qc M 0))/\ag [ab] w2 wr) (fun c _=>s.ak.length - (intOf c).toNat)
 case atStart=>exact⟨0,Qk _,rfl,H2.out,ag.refl _ _⟩
 case round =>
  obtain⟨k,hk,rfl,aJ,hc⟩:=hrel;have bt:=lh aJ;have HC:=lh hc;by_cases aL:k<s.ak.length
  ·obtain⟨u0,fz,c1,k0,k1,efo,P0,Wc⟩:=Di.out wr hc k aL
   obtain⟨fb,JM⟩:∃ fb,(fo.getD ⟨0,0,none⟩).block=fb:=⟨_,rfl⟩;rw[JM] at k0 k1 efo;obtain⟨q,hq⟩:∃ q,s.ak.getD k []=q:=⟨_,rfl⟩;have HQ:=lh hq;have Ky:=G9.out k aL;have HQD:=lh (Pe.out k aL);rw[hq] at k0 P0 Wc Ky HQD;have Tk:=lh P0;have Wf:(k:Int)<(s.ak.length:Int):=by omega
   have HYC:=lh (show ag [] wr (wr.alloc (.cells #[.slice u0 q.length c1,.slice (some ⟨fz,0,none⟩) N N] 158)) from (show ag [] wr (wr.alloc (.cells #[.slice u0 q.length c1,.slice (some ⟨fz,0,none⟩) N N] 158)) from ((ag.refl [] wr).alloc _)));have dk:=heap_alloc_new wr (.cells #[.slice u0 q.length c1,.slice (some ⟨fz,0,none⟩) N N] 158);have HY:=lh (fun (w2:World) (eh:ag [] (wr.alloc (.cells #[.slice u0 q.length c1,.slice (some ⟨fz,0,none⟩) N N] 158)) w2)=>(⟨eh.c ((cell_of_row _ _ 0 _ _ _ dk).trans rfl),eh.c ((cell_of_row _ _ 1 _ _ _ dk).trans rfl),by have hz:=eh.size;simpa using hz⟩:w2.cell? ⟨wr.heap.size,0,none⟩=some (.slice u0 q.length c1)/\w2.cell? ⟨wr.heap.size,1,none⟩=some (.slice (some ⟨fz,0,none⟩) N N)/\wr.heap.size+1<=w2.heap.size));clear dk;have HYZ:=lh (show (wr.alloc (.cells #[.slice u0 q.length c1,.slice (some ⟨fz,0,none⟩) N N] 158)).heap.size=wr.heap.size+1 by simp);obtain⟨y0,y1,-⟩:=HY.out _ (ag.refl _ _);have hyr:=aJ.aD HYC.out (by simp);have atf:ab<wr.heap.size:=(aJ.low ab (by simp[Value.ownBlock])).2;obtain⟨A,hA⟩:∃ A,Plain.lu s.ak k (Qc M 0)=A:=⟨_,rfl⟩;have HA:=lh (show Plain.lu s.ak (k+1) (Qc M 0)=Plain.mA q q.length A by rw[Plain.Su aL,hq,hA]);rw[hA] at hyr;have HYR:=lh hyr;have aju:=lh (P0.aD HYC.out (by simp));have aie:=lh Wc;clear JM hq P0 Wc aJ hyr hA
   go_wp2_with fail
   clear y0 y1 efo k0 k1;have HYB:=lh (fun wx (h:ag [ab] _ wx)=>(show wx.cell? ⟨wr.heap.size,0,none⟩=some (.slice u0 q.length c1) from h.cell (HY.out _ (ag.refl _ _)).1 (by simp;omega)));clear HY;generalize (wr.alloc (.cells #[.slice u0 q.length c1,.slice (some ⟨fz,0,none⟩) N N] 158))=w3 at *;have hxb:wr.heap.size≠ab:=by omega
   obtain⟨xb,akJ⟩:∃ xb,wr.heap.size=xb:=⟨_,rfl⟩;rw[akJ] at HYB hxb ⊢
   go_loopw [8,9,36] (fun _ _ c wx=>∃ i:Nat,i<=q.length/\c=.int .i64 i/\aj wx w.heap.size (.slice (some ⟨ab,0,none⟩) M M) (Plain.mA q i A)/\ag [ab] w3 wx) (fun _ _ c _=>q.length - (intOf c).toNat)
   case atStart=>exact⟨0,Qk _,rfl,HYR.out,ag.refl _ _⟩
   case round =>
    obtain⟨i,hi,rfl,hri,GU⟩:=hrel;have UW:=lh hri;have Kf:=lh GU;by_cases qP:i<q.length
    ·have y0:=HYB.out wr GU
     have hqr:=aju.out.aD GU (fun b hb=>by
      rw[Qa];intro e;exact aie.out b (by simpa using hb) e)
     obtain⟨rb,TE,sC⟩:=hqr.some (by omega);subst TE;have PF:(i+1) % q.length<q.length:=Ql _ (by omega);have d0:=sC i qP;have d1:=sC _ PF;obtain⟨n,hn⟩:∃ n:Nat,q.getD i 0=n:=⟨(q.getD i 0).toNat,by have:=HQD.out _ (Plain.aQ qP);omega⟩;obtain⟨m,hm⟩:∃ m:Nat,q.getD ((i+1) % q.length) 0=m:=⟨(q.getD ((i+1) % q.length) 0).toNat,by have:=HQD.out _ (Plain.aQ PF);omega⟩;have hnM:=HQD.out _ (Plain.aQ qP);have hmM:=HQD.out _ (Plain.aQ PF);rw[hn] at d0 hnM;rw[hm] at d1 hmM;have Hs:=kP n (by omega);obtain⟨t,ht⟩:∃ t:Nat,Plain.aT (n:Int)=t:=⟨(Plain.aT (n:Int)).toNat,by unfold Plain.aT;split <;> omega⟩;rw[ht] at Hs;have Gl:=lh (show Plain.mA q (i+1) A=(Plain.mA q i A).set m (t:Int) by
      show (Plain.mA q i A).set _ _=_;rw[hm,hn,ht,Qb])
     have afX:Int.tmod ((i:Int)+1) (q.length:Int)=(((i+1) % q.length:Nat):Int):=by
      rw[Int.tmod_eq_emod_of_nonneg (by omega)]
      push_cast
      rfl
     obtain⟨j,hj⟩:∃ j,(i+1) % q.length=j:=⟨_,rfl⟩;rw[hj] at afX PF d1;have ass:m<M:=by omega
     have hmi:(m:Int)<(M:Int):=by omega
     have lA:(j:Int)<(q.length:Int):=by omega
     have Sh:(i:Int)<(q.length:Int):=by omega
     have hq0:¬ (q.length:Int)=0:=by omega
     have RO:¬ q.length=0:=by omega
     have wi:IntKind.i64.wrap ((i:Int)+1)=(i:Int)+1:=IntWalk.i64_in _ (by omega);have it:aU (t:Int):=aU.mk (by omega) (by unfold Plain.aT at ht;split at ht <;> omega);obtain⟨hML,-⟩:=ns hri;obtain⟨gg,eg,ka⟩:=hri.some (by omega);simp only[Qo.injEq,Addr.mk.injEq,and_true] at eg;subst eg;have a0:=ka m (by omega);obtain⟨acs,ahp⟩:=Bk hri.1;have af:=bJ ahp m;clear ka ahp hML;clear hn hm ht sC hnM hmM hqr
     go_wp2_with fail
     have aW:ag [] wr wr.drew:=(ag.refl [] wr).drew;refine ar (ag [] wr) [0,1,2,3,4,5,6,7,8,9,10,11,12,13] (Way.line [0,1,2,3,4,5,6,7,8,9,10,11,12,13,14] .done) (by kernel_rfl) (by kernel_rfl) ?_;simp only[Way.line]
     repeat (refine ai (v:=?_) rfl (by rfl) (by rfl) (fun _ _ _ h=>h) aW (fun w' aI=>?_) ?_;rotate_left;(focus (have gB:=aI.c y0;have gQ:=aI.c d0;have np:=aI.c d1;clear aI;go_simp;try with_reducible rfl));simp only[Act.put,Z1,Z2,Z3,Z4,Z5,Z6])
     have a1:=aW.c a0;have f1:=(show wr.drew.frozen? ⟨ab,m,none⟩=false from af);refine au rfl (by rfl) (by rfl) (fun K hK=>?_);go_simp;refine hK.out _ _ (fun h=>absurd h (Bool.eq_false_iff.1 (by kernel_rfl))) ?_;clear hK K
     try simp only[Act.put,Z1,Z2,Z3,Z4,Z5,Z6]
     refine aC ?_;have yH:=lh (show aj (wr.setCell ⟨ab,m,none⟩ (.int .i64 (t:Int))).drew w.heap.size (.slice (some ⟨ab,0,none⟩) M M) (Plain.mA q (i+1) A) by rw[Gl.out];exact (UW.out.set m (t:Int) it).aD (ag.refl [] _).drew (by simp));have cB:=lh (show ag [ab] w3 (wr.setCell ⟨ab,m,none⟩ (.int .i64 (t:Int))).drew from (Kf.out.setCell (p:=⟨ab,m,none⟩) (Or.inl (by simp)) (.int .i64 (t:Int))).drew);clear aW a1 f1 a0 af d0 d1 y0 hri GU;generalize (wr.setCell ⟨ab,m,none⟩ (.int .i64 (t:Int))).drew=w9 at *;go_wp2
     go_roundw
     case rel=>exact⟨i+1,by omega,by go_num,yH.out,cB.out⟩
     case measure=>simp[intOf];omega
    have e:i=q.length:=by omega
    subst e;clear qP hi
    go_wp2_with fail
    refine⟨⟨k+1,by omega,by go_num,by rw[HA.out];exact UW.out,?_⟩,by simp[intOf];omega⟩;exact (HC.out.t HYC.out).trans Kf.out (fun j hj=>Or.inl hj)
  have e:k=s.ak.length:=by omega
  subst e;have s0:=HC.out.cell q0 (show sb ∉ [ab] from by
   rw[Qa];intro e;have:=HB.out.kind.lt;have:=HAB.out;omega)
  clear aL hk;have HAF:=lh (show aj wr w.heap.size (.slice (some ⟨ab,0,none⟩) M M) (Plain.uD M s.ak) from bt.out);have uJ:ag [] w1 wr:=(C2.out.trans HC.out (fun j hj=>Qp (by rw[Qa.1 hj,HZ.out];exact Qe _)));have wv:=lh uJ;obtain⟨x0,x1,-⟩:=HXB.out wr uJ;have qH:=lh HB.out.n;have jj:b.e.length<=1024:=by
   have:=eT (Plain.Pt.aA HF.out.pe).2.2.1;omega
  clear uJ aJ hc bt
  go_wp2_with (at_make;refine vG ji rfl _ _ rfl (B:=wr.heap.size) (n:=N) (by show Qi .i64 g.n=_;rw[qH.out]) (by show Qi .i64 g.n=_;rw[qH.out]) (Qe _) (by omega) ?_;intro w4 h4 c4;have H4:=lh (nD h4);have C4:=lh c4;clear h4 c4;clear s0;replace x0:=C4.out.c x0;replace x1:=C4.out.c x1)
  obtain⟨tb,PV⟩:∃ tb,wr.heap.size=tb:=⟨_,rfl⟩;have HTB:=lh PV;rw[PV] at H4 ⊢;clear PV;generalize wr=wz at *;obtain⟨A,hA⟩:∃ A,Plain.uD M s.ak=A:=⟨_,rfl⟩;have HAR:=lh (fun (v:Nat) (hv:v<N) (k:Nat) (hk:k<(Plain.first (Plain.az aa v)).length)=>(show A.getD ((Plain.first (Plain.az aa v)).getD k 0).toNat 0=(Plain.first (Plain.az aa v)).getD ((k+1) % (Plain.first (Plain.az aa v)).length) 0 from by
   rw[<-hA];exact Plain.Kq HF.out O2.out (by rw[qH.out];omega) hk))
  rw[hA] at HAF;clear hA;have rh:=lh (Plain.bL b)
  go_loopw [12,13,14,15,66] (fun _ _ _ _ c wx=>∃ k:Nat,k<=b.e.length/\c=.int .i64 k/\∃ ts,bu wx tb 25 1 (.slice (some ⟨tb,0,none⟩) N N) N ts (fC g b aa N (2*k))/\ag [] wz wx) (fun _ _ _ _ c _=>b.e.length - (intOf c).toNat)
  case atStart=>exact⟨0,Qk _,rfl,_,by rw[Nat.mul_zero,Ge];exact H4.out,C4.out⟩
  case round =>
   obtain⟨k,hk,rfl,ts,bh,qU⟩:=hrel;have jg:=lh bh;have kV:=lh qU;by_cases aL:k<b.e.length
   ·have hww:=(iQ.out.t wv.out).t qU
    have HWW:=lh hww;obtain⟨eb,dO,ebo,Mr⟩:=qQ (by intro q;rw[q] at aL;simp at aL);have ec:=hww.c (Mr k aL);have mf:=Plain.bX (Plain.Pt.aA HF.out.pe).2.2.1 aL;obtain⟨en,kD⟩:∃ en:Nat,b.e.getD k 0=en:=⟨(b.e.getD k 0).toNat,by omega⟩;rw[kD] at ec mf;have HDJ:=lh (show ∀ j,j<2->b.ah.getD (2*k+j) 0=((2*en+j:Nat):Int) from fun j hj=>by
     rw[Plain.lB aL j hj,kD];omega)
    have rj:∀ j,j<2->2*k+j<b.ah.length:=fun j hj=>by have:=rh.out;omega
    have U5:=lh rj;have SR:en<g.e.length:=by omega
    have Wf:(k:Int)<(b.e.length:Int):=by omega
    have UU:(en:Int)<=1024:=by omega
    obtain⟨x0,x1,-⟩:=HXB.out wr (wv.out.t qU);clear Mr mf kD rj hww x0 x1;subst ebo
    go_wp2_with fail
    clear ec
    go_loopw [13,14,15] (fun c _ _ wx=>∃ j:Nat,j<=2/\c=.int .i64 ((2*en+j:Nat):Int)/\∃ ts,bu wx tb 25 1 (.slice (some ⟨tb,0,none⟩) N N) N ts (fC g b aa N (2*k+j))/\ag [] wz wx) (fun c _ _ _=>2*en+2 - (intOf c).toNat)
    case atStart=>exact⟨0,by omega,by go_num,ts,jg.out,kV.out⟩
    case round =>
     obtain⟨j,hj,rfl,ts,bh,GQ⟩:=hrel;have Xr:=lh bh;have Vg:=lh GQ;have HCT:=lh GQ;by_cases EO:j<2
     ·have uJ:=(iQ.out.t wv.out).t GQ
      have U9:=HB.out.wL.fresh uJ;have s0:=U9.c0;have s1:=U9.c1;have Ar:=lh U9.gr;obtain⟨d,hd⟩:∃ d:Nat,2*en+j=d:=⟨_,rfl⟩;have hJ:=U5.out j EO;have UX:=HDJ.out j EO;rw[hd] at UX ⊢;obtain⟨J,hJe⟩:∃ J,2*k+j=J:=⟨_,rfl⟩;rw[hJe] at hJ UX Xr;have sZ:d / 2<g.e.length:=by omega
      obtain⟨v,hv,tq⟩:=mw HB.out.err qH.out sZ;have hdM:=O2.out _ (Plain.aQ hJ);rw[UX] at hdM;have akN:d<M:=by omega
      have LW:=lh hv;have HJE:=lh (show 2*k+(j+1)=J+1 by omega);have GY:=lh (show 2*en+(j+1)=d+1 by omega);have wu:g.tail (b.ah.getD J 0)=v:=by rw[UX];exact hv
      have arH:(d:Int)<=2*(en:Int)+1:=by omega
      have OR:(v:Int)<(N:Int):=by omega
      have hdi:(d:Int)<(M:Int):=by omega
      have hj3:j+1<=2:=by omega
      have hms:2*en+2 - (d+1)<2*en+2 - d:=by omega
      have mG:=Xr.out.cell (k:=v) (by rw[Xr.out.cells];omega);have NZ:=Xr.out.row (Cs tq);obtain⟨R,hR⟩:∃ R,Plain.first (Plain.az aa v)=R:=⟨_,rfl⟩;have ED:g.e.length<4294967296:=by omega
      by_cases hT:Plain.bG g b v J=[]
      ·rw[if_pos hT] at NZ
       obtain⟨l,hl⟩:=Plain.CT HF.out.nQ (Plain.Pt.ay HF.out.pe) (Plain.bM (Plain.Pt.aA HF.out.pe).2.2.1) (v:=v) (by rw[qH.out];omega) hJ wu hT;rw[UX,hR] at hl;have Ym:=lh (show R.Nodup by rw[<-hR];exact (Plain.cI _).nodup_iff.2 (HF.out.nQ.nodup _));have HRM:=lh (show ∀ x∈R,0<=x/\x.toNat<M from fun x hx=>by
        rw[<-hR] at hx;exact O2.out x ((HF.out.nQ.mem v (by omega) (by rw[qH.out];omega) x).1 ((Plain.cI _).mem_iff.1 hx)).1)
       have hRA:=HAR.out v tq;rw[hR] at hRA;have XF:=lh hRA;have hRl:R.length<=2048:=by
        have:=Plain.gy (N:=2048) Ym.out fun x hx=>by
         have:=HRM.out x hx;omega
        exact this
       have hR0:R.getD 0 0=d:=by rw[hl];rfl
       have Xq:=lh hR0;have Yc:0<R.length:=by rw[hl];simp
       have UK:=lh (show R.take 1=[(d:Int)] by rw[hl];rfl);have Rl:=lh (show (fC g b aa N J).set v (.row R)=fC g b aa N (J+1) by rw[<-hR];exact yy hJ tq wu);have Bq:=lh (show ∀ wx,ag [] w wx\/True->∀ x:Nat,x<M->aj wx w.heap.size (.slice (some ⟨ab,0,none⟩) M M) A->wx.cell? ⟨ab,x,none⟩=some (.int .i64 (A.getD x 0)) from fun wx _ x hx hr=>by
        obtain⟨hML,-⟩:=ns hr;obtain⟨gg,eg,ka⟩:=hr.some (by omega);simp only[Qo.injEq,Addr.mk.injEq,and_true] at eg;subst eg;exact ka x (by omega))
       obtain⟨e1,A7⟩:∃ e1:Nat,R.getD (1 % R.length) 0=e1:=⟨(R.getD (1 % R.length) 0).toNat,by have:=HRM.out _ (Plain.aQ (show 1 % R.length<R.length from Ql _ Yc));omega⟩;have HE1:=lh A7;have hA1:A.getD d 0=(e1:Int):=by
        have h:=hRA 0 Yc;rw[hR0,Qb,Qm,A7] at h;exact h
       have HA1:=lh hA1;have idx:aU (d:Int):=aU.mk (by omega) (by omega);clear hv hJ UX hdM wu hR NZ hJe U9 uJ bh GQ hd hl hR0 hRA A7 hA1 mG
       go_wp2_with fail
       refine (cO _ g d _ sZ ED Ar.out).mono ?_;rw[LW.out];rintro e w9 ⟨rfl,hc9⟩;obtain⟨va,vc,mg,l8,OL,p1,p2,p3,p4,⟨ts1,p5⟩,p6⟩:=xX (l:=[]) (x:=(d:Int)) (Xr.out.fresh hc9) tq (by rw[Cs tq,if_pos hT]) idx (by simp);simp only[List.length_nil,Qm,List.nil_append] at p1 p2 p3 p4 p5 p6;have pZ:=lh p2;have Pj:=lh (p6 _ (HCT.out.t hc9) HTB.out);have Zu:=HAF.out.aD Pj.out (by simp);have ac:=Bq.out _ (Qp trivial) d akN Zu;rw[HA1.out] at ac;have aiY:=lh p5;clear p2 p5 p6 Zu s0 s1 hc9
       go_wp2_with (at_builtin;refine eU rfl _ _ 25 rfl rfl rfl pZ.out ?_)
       clear ac p1 p3 p4 pZ;generalize OL.setCell ⟨tb,v,none⟩ (.slice mg 1 l8)=G1 at *
       go_loopg [15] (R.length+1) (fun fuel c wx=>∃ kk:Nat,1<=kk/\kk<=R.length/\c=.int .i64 (R.getD (kk % R.length) 0)/\(∃ ts,bu wx tb 25 1 (.slice (some ⟨tb,0,none⟩) N N) N ts ((fC g b aa N J).set v (.row (R.take kk))))/\ag [] wz wx/\R.length<fuel+kk/\fuel<=R.length+1)
       case atStart=>exact⟨1,Qe _,by omega,by rw[HE1.out],⟨ts1,by rw[UK.out];exact aiY.out⟩,Pj.out,by omega,Qe _⟩
       case round =>
        obtain⟨kk,Nc,hkR,rfl,⟨ts2,iI⟩,Jb,hfu,wF⟩:=hrel;have OM:=lh iI;have TC:=lh Jb;by_cases nS:kk<R.length
        ·have xj:kk % R.length=kk:=Nat.mod_eq_of_lt nS
         obtain⟨xm,LJ⟩:∃ xm:Nat,R.getD kk 0=xm:=⟨(R.getD kk 0).toNat,by have:=HRM.out _ (Plain.aQ nS);omega⟩;have hxM:=HRM.out _ (Plain.aQ nS);rw[LJ] at hxM;have ajg:xm<M:=by omega
         have acC:¬ (xm:Int)=(d:Int):=by
          intro e;have h1:=Plain.fU Ym.out nS;have h2:=Plain.fU Ym.out Yc;rw[LJ,e,<-Xq.out,h2] at h1;omega
         have aqE:((xm:Int)==(d:Int))=false:=by rw[beq_eq_false_iff_ne];exact acC
         have RN:(kk+1) % R.length<R.length:=Ql _ Yc;obtain⟨e2,NU⟩:∃ e2:Nat,R.getD ((kk+1) % R.length) 0=e2:=⟨(R.getD ((kk+1) % R.length) 0).toNat,by have:=HRM.out _ (Plain.aQ RN);omega⟩;have hA2:A.getD xm 0=(e2:Int):=by
          have h:=XF.out kk nS;rw[LJ,Qb,NU] at h;exact h
         have HA2:=lh hA2;have IU:=lh NU;have ixx:aU (xm:Int):=aU.mk (by omega) (by omega);have l6:(R.take kk).length=kk:=by rw[List.length_take];omega
         have nL:=lh (show R.take kk++[(xm:Int)]=R.take (kk+1) by
          rw[List.take_add_one,<-LJ];simp[Qh,nS])
         obtain⟨va,vc,mg,l8,Jq,p1,p2,p3,p4,⟨ts3,p5⟩,p6⟩:=xX (l:=R.take kk) (x:=(xm:Int)) iI tq (by rw[List.getElem?_set_self (by simp[fC];exact tq)]) ixx (by rw[l6];omega);rw[l6] at p1 p2 p3 p5 p6;rw[nL.out,NY] at p5;have pZ:=lh p2;have zW:=lh (p6 _ Jb HTB.out);have Zu:=HAF.out.aD zW.out (by simp);have ac:=Bq.out _ (Qp trivial) xm ajg Zu;rw[HA2.out] at ac;have RI:=lh p5;have hxi:(xm:Int)<(M:Int):=by omega
         have hgp:0<gk:=by omega
         have H8:R.length<gk - 1+(kk+1):=by omega
         have Cz:gk - 1<=R.length+1:=by omega
         rw[xj,LJ];clear p2 p5 p6 Zu iI Jb LJ hxM xj l6 NU hA2 hfu wF acC
         go_wp2_with (at_builtin;refine eU rfl _ _ 25 rfl rfl rfl pZ.out ?_)
         go_roundg (gk - 1)
         case measure=>omega
         case rel=>exact⟨kk+1,by omega,by omega,by rw[IU.out],⟨ts3,RI.out⟩,zW.out,H8,Cz⟩
        have e:kk=R.length:=by omega
        subst e;have xj:R.length % R.length=0:=Nat.mod_self _;rw[xj,Xq.out];rw[List.take_length] at OM;clear xj iI Jb hfu wF nS;go_wp2;exact⟨⟨j+1,hj3,by have:=GY.out;congr 1;omega,ts2,by rw[HJE.out,<-Rl.out];exact OM.out,TC.out⟩,by simp[intOf];omega⟩
      have Gp:=lh (EC (aa:=aa) (N:=N) hJ tq wu hT);rw[if_neg hT,hR] at NZ;have hRl:0<R.length:=by
       obtain⟨y,hy⟩:=List.exists_mem_of_ne_nil _ hT;unfold Plain.bG at hy;obtain⟨DP,Hv⟩:=List.mem_filter.1 hy;have h3:=(HF.out.nQ.mem v (by omega) (by rw[qH.out];omega) y).2 ⟨List.mem_of_mem_take DP,of_decide_eq_true Hv⟩;rw[<-hR];exact List.length_pos_of_mem ((Plain.cI _).mem_iff.2 h3)
      obtain⟨ro,rcc,er⟩:=NZ.shape;rw[er] at mG;clear hv hJ UX hdM wu hT hR NZ er hJe U9 uJ bh GQ hd
      go_wp2_with fail
      refine (cO _ g d _ sZ ED Ar.out).mono ?_;rw[LW.out];rintro e w9 ⟨rfl,hc9⟩;have t9:=hc9.c mG;have AN:=lh (Vg.out.t hc9);have HN9:=lh (Xr.out.fresh hc9);clear hc9 mG s0 s1;go_wp2;exact⟨⟨j+1,hj3,by have:=GY.out;congr 1;omega,_,by rw[HJE.out,<-Gp.out];exact HN9.out,AN.out⟩,by simp[intOf];omega⟩
     have e2:j=2:=by omega
     subst e2;have lC:¬ ((2*en+2:Nat):Int)<=2*(en:Int)+1:=by omega
     go_wp2;refine⟨⟨k+1,by omega,by go_num,_,by rw[show 2*(k+1)=2*k+2 by omega];exact Xr.out,HCT.out⟩,by simp[intOf];omega⟩
   have e:k=b.e.length:=by omega
   subst e;clear aL hk;go_wp2;go_ret;have sV:=jg.out;rw[<-rh.out,IW HF.out.nQ qH.out] at sV;exact⟨tb,ts,rfl,sV.base (by rw[<-HTB.out];exact Nat.le_trans iQ.out.size wv.out.size),(iQ.out.t wv.out).t kV.out⟩
end Go.Proofs.YtoiflofhcmjpoaaGreat
