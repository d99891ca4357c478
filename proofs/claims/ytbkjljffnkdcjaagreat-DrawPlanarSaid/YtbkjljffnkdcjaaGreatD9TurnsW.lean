/- draw's turns: contract. Conditions: a sketch that is drawn whole, its block, that lie in memory and read so. -/
import Derived.Test.YtbkjljffnkdcjaaGreatD9PutW
open List renaming mem_singleton→Qa,getElem_range→Qe,ext_getElem→Qg,getElem_map→Qh,replicate→Ql,getElem?_eq_getElem→Qm,getD→Qn,range→Qq,getElem?_take→Qr,getElem?_map→Qs,getElem_set→Qt
open Go.Act renaming put→Qb
open Nat renaming le_refl→Qc,zero_add→Qj,zero_le→Qp,mod_lt→Qu
open Or renaming inr→Qd,inl→Qo
open Int renaming toNat_natCast→Qf
open Go.Value renaming slice→Qi,int→Qk,ownBlock→Qv
open Option renaming some→Qw
namespace Go.Proofs.YtbkjljffnkdcjaaGreat
open Go.RowKit Go.Maps
def fN (g:Plain.Gr) (b:Plain.Pt) (aa:List (List Int)) (N j:Nat):List Cell:=(Qq N).map fun v:Nat=>Cell.row (if Plain.bX g b v j=[] then [] else Plain.first (Plain.aI aa v))
theorem Hk (g:Plain.Gr) (b:Plain.Pt) (aa:List (List Int)) (N:Nat):fN g b aa N 0=Ql N (Cell.row []):=by
 unfold fN;have:(fun v:Nat=>Cell.row (if Plain.bX g b v 0=[] then [] else Plain.first (Plain.aI aa v)))=fun _=>Cell.row []:=by funext v;rw[Plain.ri,if_pos rfl]
 rw[this,List.map_const',List.length_range]
theorem Dn {g:Plain.Gr} {b:Plain.Pt} {aa:List (List Int)} {N j v:Nat} (hv:v<N):(fN g b aa N j)[v]?=some (.row (if Plain.bX g b v j=[] then [] else Plain.first (Plain.aI aa v))):=by
 unfold fN;rw[Qs,List.getElem?_range hv];rfl
theorem zE {g:Plain.Gr} {b:Plain.Pt} {aa:List (List Int)} {N j v:Nat} (hj:j<b.ag.length) (_hv:v<N) (ht:g.tail (b.ag.getD j 0)=v):(fN g b aa N j).set v (.row (Plain.first (Plain.aI aa v)))=fN g b aa N (j+1):=by
 refine Qg (by simp[fN]) fun i h1 h2=>?_;have hi:i<N:=by simpa[fN] using h2
 rw[Qt];simp only[fN,Qh,Qe];rw[Plain.sm hj,ht];by_cases e1:v=i
 ·subst e1
  rw[if_pos rfl,if_pos rfl,if_neg (by simp)]
 have Tu:¬ (v:Int)=(i:Int):=by omega
 rw[if_neg e1,if_neg Tu]
theorem GB {g:Plain.Gr} {b:Plain.Pt} {aa:List (List Int)} {N j v:Nat} (hj:j<b.ag.length) (hv:v<N) (ht:g.tail (b.ag.getD j 0)=v) (h:Plain.bX g b v j≠[]):fN g b aa N j=fN g b aa N (j+1):=by
 rw[<-zE hj hv ht];refine Qg (by simp[fN]) fun i h1 h2=>?_;rw[Qt];by_cases e1:v=i
 ·subst e1
  rw[if_pos rfl];simp only[fN,Qh,Qe];rw[if_neg h]
 rw[if_neg e1]
theorem KD {g:Plain.Gr} {b:Plain.Pt} {aa:List (List Int)} {N:Nat} (ht:Plain.aT g b aa) (hN:g.n=N):fN g b aa N b.ag.length=(aa.map Plain.first).map Cell.row:=by
 have hl:=ht.len;refine Qg (by simp[fN];omega) fun i h1 h2=>?_;have hi:i<N:=by simpa[fN] using h1
 have hit:i<aa.length:=by omega
 simp only[fN,Qh,Qe];have hta:Plain.aI aa (i:Int)=aa[i]:=by unfold Plain.aI;rw[Qf];simp[Qn,hit]
 rw[Plain.ue,hta];by_cases e:Plain.a8 g b i=[]
 ·rw[if_pos e]
  have:aa[i]=[]:=by
   refine List.eq_nil_iff_forall_not_mem.2 fun d hd=>?_;have h3:=(ht.mem i (by omega) (by omega) d).1 (by rw[hta];exact hd);have:d∈Plain.a8 g b i:=Plain.bk.2 h3;rw[e] at this;cases this
  rw[this];rfl
 rw[if_neg e]
namespace Plain
theorem Vl {F:List (List Int)} {k:Nat} (_hk:k<F.length) (L:List Int):mC F (k+1) L=oC (F.getD k []) (F.getD k []).length (mC F k L):=rfl
end Plain
theorem Az {w:World} {tb N v:Nat} {ts:List Value} {cs:List Cell} {l:List Int} {x:Int} (h:bF w tb 25 1 (.slice (some ⟨tb,0,none⟩) N N) N ts cs) (hv:v<N) (hc:cs[v]?=some (.row l)) (hx:bn x) (hl:l.length+1<4294967296) :
  ∃ va vc nt nr w2,w.cell? ⟨tb,v,none⟩=some (.slice va l.length vc)/\(Builtin.append_ #[25,25] 25 #[.slice va l.length vc,.slice (some ⟨w.heap.size,0,none⟩) 1 1]).run Tryz.prog (w.alloc (.cells #[.int .i64 x] 3))=.ok (.slice nt (l.length+1) nr) w2 /\
   w2.cell? ⟨tb,v,none⟩=some (.slice va l.length vc)/\w2.frozen? ⟨tb,v,none⟩=false /\
   (∃ ts',bF (w2.setCell ⟨tb,v,none⟩ (.slice nt (l.length+1) nr)) tb 25 1 (.slice (some ⟨tb,0,none⟩) N N) N ts' (cs.set v (.row (l++[x])))) /\
   ∀ w0:World,ai [] w0 w->w0.heap.size=tb->ai [] w0 (w2.setCell ⟨tb,v,none⟩ (.slice nt (l.length+1) nr)):=by
 have xp:=h.cells;obtain⟨va,vc,nt,nr,w2,p1,p2,p3,p4,p5,p6,p7,p8,-⟩:=oS (q:=v) (x:=x) h (by decide) (Nat.le_of_lt (h.out.lt tb rfl).2) (by rw[xp];omega) hc hx hl;refine⟨va,vc,nt,nr,w2,p1,p2,p3,p4,⟨_,p5⟩,fun w0 h0 hs=>h0.trans p8 fun b hb=>Qd ?_⟩;rw[hs];rcases List.mem_cons.1 hb with q | q
 ·rw[q];exact Qc _
 exact (h.kind (k:=v) (by rw[xp];omega) (by rw[p7];simpa[aL] using q)).1
theorem Pq {α:Type} (l:List α) (i:Nat) (a c:α):(l.set i a).set i c=l.set i c:=by simp
set_option maxRecDepth 100000 in
set_option maxHeartbeats 8000000 in
theorem Lm (w0 w:World) (sb ob N:Nat) (vE fv rv vb:Value) (xs ys:List Value) (g:Plain.Gr) (b:Plain.Pt) (s:Plain.Sk) (aa:List (List Int)) (hO:CZ w0 w sb ob N g vE fv rv xs ys s) (hF:Plain.cL g b aa s.aj) (hp:gD w vb b) :
  Calls Tryz.prog 58 #[.pointer (some ⟨sb,0,none⟩),vb] w fun e w'=>∃ tb ts,e=.returned (.slice (some ⟨tb,0,none⟩) N N)/\bF w' w.heap.size 25 1 (.slice (some ⟨tb,0,none⟩) N N) N ts ((aa.map Plain.first).map Cell.row)/\ai [] w w':=by
 have HB:=lh hO.base;have AW:=lh hO.aj;have HF:=lh hF;have HGI:=lh hO.base.zl;have ir:=lh hO.base.zl.small;have q0:=hO.base.zl.c0;have q1:=hO.base.zl.c1;have q3:=hO.base.q3;obtain⟨eo,aeT,DQ,-⟩:=HGI.out.gr;simp only[Value.agg.injEq,Array.mk.injEq,List.cons.injEq,true_and,and_true] at DQ;subst DQ;obtain⟨fo,fc,Nu⟩:=hO.aj.out |> cM;subst Nu;obtain⟨pv,pe,rfl,vF,gJ⟩:=hp;have Jh:=lh gJ;have VE:=lh vF;obtain⟨bo,bc,rfl,-,-,rR⟩:=gJ;obtain⟨ao,ac,rfl,-,-,-⟩:=vF;have eV:=lh (show ai [] w (w.alloc (.cells #[.slice ao b.v.length ac,.slice bo b.e.length bc] 27)) from (show ai [] w (w.alloc (.cells #[.slice ao b.v.length ac,.slice bo b.e.length bc] 27)) from ((ai.refl [] w).alloc _)));have cK:=heap_alloc_new w (.cells #[.slice ao b.v.length ac,.slice bo b.e.length bc] 27);have HX:=lh (fun (w2:World) (dL:ai [] (w.alloc (.cells #[.slice ao b.v.length ac,.slice bo b.e.length bc] 27)) w2)=>(⟨dL.c ((cell_of_row _ _ 0 _ _ _ cK).trans rfl),dL.c ((cell_of_row _ _ 1 _ _ _ cK).trans rfl),by have hz:=dL.size;simpa using hz⟩:w2.cell? ⟨w.heap.size,0,none⟩=some (.slice ao b.v.length ac)/\w2.cell? ⟨w.heap.size,1,none⟩=some (.slice bo b.e.length bc)/\w.heap.size+1<=w2.heap.size));clear cK;have CK:=lh (show (w.alloc (.cells #[.slice ao b.v.length ac,.slice bo b.e.length bc] 27)).heap.size=w.heap.size+1 by simp);obtain⟨x0,x1,-⟩:=HX.out _ (ai.refl _ _);have nz:g.e.length<=1024:=ir.out.2;have hNN:N<=1024:=ir.out.1;have VB:s.aj.length<=1026:=by
  have h1:=hF.pZ;have h2:=Plain.Pt.aF hF.pe;have h3:=fY (Plain.Pt.aP hF.pe).2.2.1;omega
 have hn0:0<=g.n:=by rw[hO.base.n];omega
 clear hO hF;replace q0:=eV.out.c q0;replace q1:=eV.out.c q1;replace q3:=eV.out.c q3
 go_enter Tryz.func58,Tryz.ntmps58
 go_wp2_with (at_make;refine JK cJ rfl _ _ rfl (B:=w.heap.size) (n:=2*g.e.length) (by show Qk .i64 (2*(g.e.length:Int))=_;congr 1) (by show Qk .i64 (2*(g.e.length:Int))=_;congr 1) eV.out.size (by omega) ?_;intro w2 h2 c2;have H2:=lh (rN h2 (by omega));have C2:=lh c2;clear h2 c2;replace q0:=C2.out.c q0;replace q3:=C2.out.c q3;clear q1)
 have jZ:=eV.out.size;have pF:(w.alloc (.cells #[.slice ao b.v.length ac,.slice bo b.e.length bc] 27)).heap.size=w.heap.size+1:=by simp
 obtain⟨ab,lT⟩:∃ n,w.heap.size+1=n:=⟨_,rfl⟩;have HAB:=lh lT;rw[pF,lT] at H2;rw[lT];have HXB:=lh (fun wr (h:ai [] _ wr)=>HX.out wr h);have Fw:=eV.out;have HZ:=lh (pF.trans lT);clear x0 x1 jZ pF HX eV;have eV:=lh Fw;generalize w.alloc (.cells #[.slice ao b.v.length ac,.slice bo b.e.length bc] 27)=w1 at *;obtain⟨M,hM⟩:∃ M,2*g.e.length=M:=⟨_,rfl⟩;rw[hM] at H2 ⊢;have qg:=lh (AW.out.fresh (Fw.t C2.out));have ql:M<=2048:=by omega
 have Sl:=lh (show ∀ d∈b.ag,0<=d/\d.toNat<M from fun d hd=>by
  obtain⟨i,hi,e⟩:=Plain.bO (Plain.aw.1 hd);have:=Plain.ct (Plain.Pt.aP HF.out.pe).2.2.1 hi;omega)
 have Fh:=lh (show ∀ wr,ai [ab] w2 wr->∀ i,i<s.aj.length->∃ u0 eG c1,wr.cell? ⟨(fo.getD ⟨0,0,none⟩).block,i*2,none⟩=some (.slice u0 (s.aj.getD i []).length c1)/\wr.cell? ⟨(fo.getD ⟨0,0,none⟩).block,i*2+1,none⟩=some (.slice (some ⟨eG,0,none⟩) N N)/\fo=some ⟨(fo.getD ⟨0,0,none⟩).block,0,none⟩/\ax wr w0.heap.size (.slice u0 (s.aj.getD i []).length c1) (s.aj.getD i [])/\∀ b∈(Qi u0 (s.aj.getD i []).length c1).ownBlock.toList,b≠ab from fun wr hw i hi=>by
  have z':=AW.out.fresh Fw;have xp:=z'.len;obtain⟨fb,fcc,efv⟩:=cN z'.out (by omega);simp only[Qi.injEq,true_and] at efv;obtain⟨rfl,rfl⟩:=efv;have aiR:∀ b,bI w1 b 147->b ∉ [ab]:=fun b hb=>by
   rw[Qa];intro e;have:=hb.lt;rw[HZ.out] at this;omega
  have aey:∀ {v:Value} {l:List Int},ax w1 w0.heap.size v l->∀ b∈v.ownBlock.toList,b ∉ [ab]:=fun hr b hb=>by
   rw[Qa];intro e;have:=(hr.low b hb).2;rw[HZ.out] at this;omega
  have wU:ai [ab] w1 wr:=(C2.out.mono (by simp)).trans hw (fun j hj=>Qo hj);have hr:=z'.row i hi;obtain⟨eG,e1,-⟩:=z'.has i hi;have k0:=z'.cell (k:=2*i) (by omega);have k1:=z'.cell (k:=2*i+1) (by omega);rw[e1] at k1;obtain⟨u0,c1,e0⟩:=hr.shape;rw[e0] at k0 hr;have abC:=aiR fb (cf z'.out rfl);rw[Nat.mul_comm 2 i] at k0 k1;exact⟨u0,eG,c1,wU.cell k0 abC,wU.cell k1 abC,rfl,hr.aM wU (aey hr),fun b hb e=>aey hr b hb (by simp[e])⟩)
 have Su:=lh (show ∀ i,i<s.aj.length->∀ d∈s.aj.getD i [],0<=d/\d.toNat<M from fun i hi d hd=>Sl.out d (HF.out.all.mem_iff.1 (List.mem_flatten.2 ⟨_,by simp[Qn,hi],hd⟩)));have Jq:=lh (show ∀ i,i<s.aj.length->(s.aj.getD i []).length<=2048 from fun i hi=>by
  have h1:=Plain.du (HF.out.simple (s.aj.getD i []) (by simp[Qn,hi]));have:=Plain.il (N:=2048) h1 fun u hu=>by
   have:=Su.out i hi u hu;omega
  exact this)
 clear Fw lT
 go_loopw [29] (fun c wr=>∃ k:Nat,k<=s.aj.length/\c=.int .i64 k/\ax wr w.heap.size (.slice (some ⟨ab,0,none⟩) M M) (Plain.mC s.aj k (Ql M 0))/\ai [ab] w2 wr) (fun c _=>s.aj.length - (intOf c).toNat)
 case atStart=>exact⟨0,Qp _,rfl,H2.out,ai.refl _ _⟩
 case round =>
  obtain⟨k,hk,rfl,bd,hc⟩:=hrel;have bU:=lh bd;have HC:=lh hc;by_cases aU:k<s.aj.length
  ·obtain⟨u0,eG,c1,k0,k1,efo,hrw,ZO⟩:=Fh.out wr hc k aU
   obtain⟨fb,Lr⟩:∃ fb,(fo.getD ⟨0,0,none⟩).block=fb:=⟨_,rfl⟩;rw[Lr] at k0 k1 efo;obtain⟨q,hq⟩:∃ q,s.aj.getD k []=q:=⟨_,rfl⟩;have HQ:=lh hq;have Lu:=Jq.out k aU;have HQD:=lh (Su.out k aU);rw[hq] at k0 hrw ZO Lu HQD;have VC:=lh hrw;have hki:(k:Int)<(s.aj.length:Int):=by omega
   have HYC:=lh (show ai [] wr (wr.alloc (.cells #[.slice u0 q.length c1,.slice (some ⟨eG,0,none⟩) N N] 147)) from (show ai [] wr (wr.alloc (.cells #[.slice u0 q.length c1,.slice (some ⟨eG,0,none⟩) N N] 147)) from ((ai.refl [] wr).alloc _)));have cK:=heap_alloc_new wr (.cells #[.slice u0 q.length c1,.slice (some ⟨eG,0,none⟩) N N] 147);have HY:=lh (fun (w2:World) (dL:ai [] (wr.alloc (.cells #[.slice u0 q.length c1,.slice (some ⟨eG,0,none⟩) N N] 147)) w2)=>(⟨dL.c ((cell_of_row _ _ 0 _ _ _ cK).trans rfl),dL.c ((cell_of_row _ _ 1 _ _ _ cK).trans rfl),by have hz:=dL.size;simpa using hz⟩:w2.cell? ⟨wr.heap.size,0,none⟩=some (.slice u0 q.length c1)/\w2.cell? ⟨wr.heap.size,1,none⟩=some (.slice (some ⟨eG,0,none⟩) N N)/\wr.heap.size+1<=w2.heap.size));clear cK;have HYZ:=lh (show (wr.alloc (.cells #[.slice u0 q.length c1,.slice (some ⟨eG,0,none⟩) N N] 147)).heap.size=wr.heap.size+1 by simp);obtain⟨y0,y1,-⟩:=HY.out _ (ai.refl _ _);have hyr:=bd.aM HYC.out (by simp);have auA:ab<wr.heap.size:=(bd.low ab (by simp[Qv])).2;obtain⟨A,hA⟩:∃ A,Plain.mC s.aj k (Ql M 0)=A:=⟨_,rfl⟩;have HA:=lh (show Plain.mC s.aj (k+1) (Ql M 0)=Plain.oC q q.length A by rw[Plain.Vl aU,hq,hA]);rw[hA] at hyr;have HYR:=lh hyr;have amU:=lh (hrw.aM HYC.out (by simp));have aix:=lh ZO;clear Lr hq hrw ZO bd hyr hA
   go_wp2_with fail
   clear y0 y1 efo k0 k1;have HYB:=lh (fun wx (h:ai [ab] _ wx)=>(show wx.cell? ⟨wr.heap.size,0,none⟩=some (.slice u0 q.length c1) from h.cell (HY.out _ (ai.refl _ _)).1 (by simp;omega)));clear HY;generalize (wr.alloc (.cells #[.slice u0 q.length c1,.slice (some ⟨eG,0,none⟩) N N] 147))=w3 at *;have hxb:wr.heap.size≠ab:=by omega
   obtain⟨xb,aoc⟩:∃ xb,wr.heap.size=xb:=⟨_,rfl⟩;rw[aoc] at HYB hxb ⊢
   go_loopw [8,9,36] (fun _ _ c wx=>∃ i:Nat,i<=q.length/\c=.int .i64 i/\ax wx w.heap.size (.slice (some ⟨ab,0,none⟩) M M) (Plain.oC q i A)/\ai [ab] w3 wx) (fun _ _ c _=>q.length - (intOf c).toNat)
   case atStart=>exact⟨0,Qp _,rfl,HYR.out,ai.refl _ _⟩
   case round =>
    obtain⟨i,hi,rfl,hri,Vi⟩:=hrel;have YN:=lh hri;have Zt:=lh Vi;by_cases xc:i<q.length
    ·have y0:=HYB.out wr Vi
     have hqr:=amU.out.aM Vi (fun b hb=>by
      rw[Qa];intro e;exact aix.out b (by simpa using hb) e)
     obtain⟨rb,Wx,tQ⟩:=hqr.some (by omega);subst Wx;have UY:(i+1) % q.length<q.length:=Qu _ (by omega);have d0:=tQ i xc;have d1:=tQ _ UY;obtain⟨n,hn⟩:∃ n:Nat,q.getD i 0=n:=⟨(q.getD i 0).toNat,by have:=HQD.out _ (Plain.aZ xc);omega⟩;obtain⟨m,hm⟩:∃ m:Nat,q.getD ((i+1) % q.length) 0=m:=⟨(q.getD ((i+1) % q.length) 0).toNat,by have:=HQD.out _ (Plain.aZ UY);omega⟩;have hnM:=HQD.out _ (Plain.aZ xc);have hmM:=HQD.out _ (Plain.aZ UY);rw[hn] at d0 hnM;rw[hm] at d1 hmM;have BV:=lW n (by omega);obtain⟨t,ht⟩:∃ t:Nat,Plain.aE (n:Int)=t:=⟨(Plain.aE (n:Int)).toNat,by unfold Plain.aE;split <;> omega⟩;rw[ht] at BV;have Wr:=lh (show Plain.oC q (i+1) A=(Plain.oC q i A).set m (t:Int) by
      show (Plain.oC q i A).set _ _=_;rw[hm,hn,ht,Qf])
     have anw:Int.tmod ((i:Int)+1) (q.length:Int)=(((i+1) % q.length:Nat):Int):=by
      rw[Int.tmod_eq_emod_of_nonneg (by omega)]
      push_cast
      rfl
     obtain⟨j,hj⟩:∃ j,(i+1) % q.length=j:=⟨_,rfl⟩;rw[hj] at anw UY d1;have awp:m<M:=by omega
     have hmi:(m:Int)<(M:Int):=by omega
     have lp:(j:Int)<(q.length:Int):=by omega
     have hii:(i:Int)<(q.length:Int):=by omega
     have hq0:¬ (q.length:Int)=0:=by omega
     have UJ:¬ q.length=0:=by omega
     have wi:IntKind.i64.wrap ((i:Int)+1)=(i:Int)+1:=IntWalk.i64_in _ (by omega);have it:bn (t:Int):=bn.mk (by omega) (by unfold Plain.aE at ht;split at ht <;> omega);obtain⟨hML,-⟩:=oO hri;obtain⟨gg,eg,jM⟩:=hri.some (by omega);simp only[Qw.injEq,Addr.mk.injEq,and_true] at eg;subst eg;have a0:=jM m (by omega);obtain⟨acs,ahp⟩:=Ew hri.1;have af:=bJ ahp m;clear jM ahp hML;clear hn hm ht tQ hnM hmM hqr
     go_wp2_with fail
     have aD:ai [] wr wr.drew:=(ai.refl [] wr).drew;refine au (ai [] wr) [0,1,2,3,4,5,6,7,8,9,10,11,12,13] (Way.line [0,1,2,3,4,5,6,7,8,9,10,11,12,13,14] .done) (by kernel_rfl) (by kernel_rfl) ?_;simp only[Way.line]
     repeat
      first
       | (refine ar rfl (by rfl) (by rfl) (fun _ _ _ h=>h) aD ?_;simp only[Qb,Z1,Z2,Z3,Z4,Z5,Z6])
       | (refine aq (v:=?_) rfl (by rfl) (by rfl) (fun _ _ _ h=>h) aD (fun w' aK=>?_) ?_;rotate_left;(focus (have fU:=aK.c y0;have gX:=aK.c d0;have nP:=aK.c d1;clear aK;go_simp;try with_reducible rfl));simp only[Qb,Z1,Z2,Z3,Z4,Z5,Z6])
       | (refine ak rfl (by rfl) (by rfl) aD ?_;simp only[Qb,Z1,Z2,Z3,Z4,Z5,Z6])
     have a1:=aD.c a0;have f1:=(show wr.drew.frozen? ⟨ab,m,none⟩=false from af);refine aC rfl (by rfl) (by rfl) (fun K hK=>?_);go_simp;refine hK.out _ _ (fun h=>absurd h (Bool.eq_false_iff.1 (by kernel_rfl))) ?_;clear hK K
     try simp only[Qb,Z1,Z2,Z3,Z4,Z5,Z6]
     refine aB ?_;have y7:=lh (show ax (wr.setCell ⟨ab,m,none⟩ (.int .i64 (t:Int))).drew w.heap.size (.slice (some ⟨ab,0,none⟩) M M) (Plain.oC q (i+1) A) by rw[Wr.out];exact (YN.out.set m (t:Int) it).aM (ai.refl [] _).drew (by simp));have cA:=lh (show ai [ab] w3 (wr.setCell ⟨ab,m,none⟩ (.int .i64 (t:Int))).drew from (Zt.out.setCell (p:=⟨ab,m,none⟩) (Qo (by simp)) (.int .i64 (t:Int))).drew);clear aD a1 f1 a0 af d0 d1 y0 hri Vi;generalize (wr.setCell ⟨ab,m,none⟩ (.int .i64 (t:Int))).drew=w9 at *;go_wp2
     go_roundw
     case rel=>exact⟨i+1,by omega,by go_num,y7.out,cA.out⟩
     case measure=>simp[intOf];omega
    have e:i=q.length:=by omega
    subst e;clear xc hi
    go_wp2_with fail
    refine⟨⟨k+1,by omega,by go_num,by rw[HA.out];exact YN.out,?_⟩,by simp[intOf];omega⟩;exact (HC.out.t HYC.out).trans Zt.out (fun j hj=>Qo hj)
  have e:k=s.aj.length:=by omega
  subst e;have s0:=HC.out.cell q0 (show sb ∉ [ab] from by
   rw[Qa];intro e;have:=HB.out.kind.lt;have:=HAB.out;omega)
  clear aU hk;have HAF:=lh (show ax wr w.heap.size (.slice (some ⟨ab,0,none⟩) M M) (Plain.wW M s.aj) from bU.out);have wU:ai [] w1 wr:=(C2.out.trans HC.out (fun j hj=>Qd (by rw[Qa.1 hj,HZ.out];exact Qc _)));have yR:=lh wU;obtain⟨x0,x1,-⟩:=HXB.out wr wU;have sB:=lh HB.out.n;have fT:b.e.length<=1024:=by
   have:=fY (Plain.Pt.aP HF.out.pe).2.2.1;omega
  clear wU bd hc bU
  go_wp2_with (at_make;refine JK qS rfl _ _ rfl (B:=wr.heap.size) (n:=N) (by show Qk .i64 g.n=_;rw[sB.out]) (by show Qk .i64 g.n=_;rw[sB.out]) (Qc _) (by omega) ?_;intro w4 h4 c4;have H4:=lh (sP h4);have C4:=lh c4;clear h4 c4;clear s0;replace x0:=C4.out.c x0;replace x1:=C4.out.c x1)
  obtain⟨tb,Xv⟩:∃ tb,wr.heap.size=tb:=⟨_,rfl⟩;have HTB:=lh Xv;rw[Xv] at H4 ⊢;clear Xv;generalize wr=wz at *;obtain⟨A,hA⟩:∃ A,Plain.wW M s.aj=A:=⟨_,rfl⟩;have HAR:=lh (fun (v:Nat) (hv:v<N) (k:Nat) (hk:k<(Plain.first (Plain.aI aa v)).length)=>(show A.getD ((Plain.first (Plain.aI aa v)).getD k 0).toNat 0=(Plain.first (Plain.aI aa v)).getD ((k+1) % (Plain.first (Plain.aI aa v)).length) 0 from by
   rw[<-hA];exact Plain.Lb HF.out Sl.out (by rw[sB.out];omega) hk))
  rw[hA] at HAF;clear hA;have FI:=lh (Plain.cw b)
  go_loopw [12,13,14,15,66] (fun _ _ _ _ c wx=>∃ k:Nat,k<=b.e.length/\c=.int .i64 k/\∃ ts,bF wx tb 25 1 (.slice (some ⟨tb,0,none⟩) N N) N ts (fN g b aa N (2*k))/\ai [] wz wx) (fun _ _ _ _ c _=>b.e.length - (intOf c).toNat)
  case atStart=>exact⟨0,Qp _,rfl,_,by rw[Nat.mul_zero,Hk];exact H4.out,C4.out⟩
  case round =>
   obtain⟨k,hk,rfl,ts,bh,lJ⟩:=hrel;have lK:=lh bh;have Ch:=lh lJ;by_cases aU:k<b.e.length
   ·have hww:=(eV.out.t yR.out).t lJ
    have HWW:=lh hww;obtain⟨eb,eB,ebo,VX⟩:=rR (by intro q;rw[q] at aU;simp at aU);have ec:=hww.c (VX k aU);have qK:=Plain.ct (Plain.Pt.aP HF.out.pe).2.2.1 aU;obtain⟨en,kQ⟩:∃ en:Nat,b.e.getD k 0=en:=⟨(b.e.getD k 0).toNat,by omega⟩;rw[kQ] at ec qK;have HDJ:=lh (show ∀ j,j<2->b.ag.getD (2*k+j) 0=((2*en+j:Nat):Int) from fun j hj=>by
     rw[Plain.qq aU j hj,kQ];omega)
    have sH:∀ j,j<2->2*k+j<b.ag.length:=fun j hj=>by have:=FI.out;omega
    have ZK:=lh sH;have TW:en<g.e.length:=by omega
    have hki:(k:Int)<(b.e.length:Int):=by omega
    have Gf:(en:Int)<=1024:=by omega
    obtain⟨x0,x1,-⟩:=HXB.out wr (yR.out.t lJ);clear VX qK kQ sH hww x0 x1;subst ebo
    go_wp2_with fail
    clear ec
    go_loopw [13,14,15] (fun c _ _ wx=>∃ j:Nat,j<=2/\c=.int .i64 ((2*en+j:Nat):Int)/\∃ ts,bF wx tb 25 1 (.slice (some ⟨tb,0,none⟩) N N) N ts (fN g b aa N (2*k+j))/\ai [] wz wx) (fun c _ _ _=>2*en+2 - (intOf c).toNat)
    case atStart=>exact⟨0,by omega,by go_num,ts,lK.out,Ch.out⟩
    case round =>
     obtain⟨j,hj,rfl,ts,bh,PO⟩:=hrel;have Yh:=lh bh;have HCY:=lh PO;have HCT:=lh PO;by_cases Mi:j<2
     ·have wU:=(eV.out.t yR.out).t PO
      have hgi:=HB.out.zl.fresh wU;have s0:=hgi.c0;have s1:=hgi.c1;have Cb:=lh hgi.gr;obtain⟨d,hd⟩:∃ d:Nat,2*en+j=d:=⟨_,rfl⟩;have hJ:=ZK.out j Mi;have hdJ:=HDJ.out j Mi;rw[hd] at hdJ ⊢;obtain⟨J,hJe⟩:∃ J,2*k+j=J:=⟨_,rfl⟩;rw[hJe] at hJ hdJ Yh;have pG:d / 2<g.e.length:=by omega
      obtain⟨v,hv,zL⟩:=Db HB.out.err sB.out pG;have hdM:=Sl.out _ (Plain.aZ hJ);rw[hdJ] at hdM;have anA:d<M:=by omega
      have Oj:=lh hv;have HJE:=lh (show 2*k+(j+1)=J+1 by omega);have YB:=lh (show 2*en+(j+1)=d+1 by omega);have yO:g.tail (b.ag.getD J 0)=v:=by rw[hdJ];exact hv
      have asB:(d:Int)<=2*(en:Int)+1:=by omega
      have Tu:(v:Int)<(N:Int):=by omega
      have hdi:(d:Int)<(M:Int):=by omega
      have hj3:j+1<=2:=by omega
      have hms:2*en+2 - (d+1)<2*en+2 - d:=by omega
      have J4:=Yh.out.cell (k:=v) (by rw[Yh.out.cells];omega);have NJ:=Yh.out.row (Dn zL);obtain⟨R,hR⟩:∃ R,Plain.first (Plain.aI aa v)=R:=⟨_,rfl⟩;have Mk:g.e.length<4294967296:=by omega
      by_cases hT:Plain.bX g b v J=[]
      ·rw[if_pos hT] at NJ
       obtain⟨l,hl⟩:=Plain.Eo HF.out.js (Plain.Pt.aF HF.out.pe) (Plain.bY (Plain.Pt.aP HF.out.pe).2.2.1) (v:=v) (by rw[sB.out];omega) hJ yO hT;rw[hdJ,hR] at hl;have HRN:=lh (show R.Nodup by rw[<-hR];exact (Plain.fO _).nodup_iff.2 (HF.out.js.nodup _));have HRM:=lh (show ∀ x∈R,0<=x/\x.toNat<M from fun x hx=>by
        rw[<-hR] at hx;exact Sl.out x ((HF.out.js.mem v (by omega) (by rw[sB.out];omega) x).1 ((Plain.fO _).mem_iff.1 hx)).1)
       have hRA:=HAR.out v zL;rw[hR] at hRA;have HRA:=lh hRA;have hRl:R.length<=2048:=by
        have:=Plain.il (N:=2048) HRN.out fun x hx=>by
         have:=HRM.out x hx;omega
        exact this
       have hR0:R.getD 0 0=d:=by rw[hl];rfl
       have HR0:=lh hR0;have Zr:0<R.length:=by rw[hl];simp
       have Sf:=lh (show R.take 1=[(d:Int)] by rw[hl];rfl);have SL:=lh (show (fN g b aa N J).set v (.row R)=fN g b aa N (J+1) by rw[<-hR];exact zE hJ zL yO);have IB:=lh (show ∀ wx,ai [] w wx\/True->∀ x:Nat,x<M->ax wx w.heap.size (.slice (some ⟨ab,0,none⟩) M M) A->wx.cell? ⟨ab,x,none⟩=some (.int .i64 (A.getD x 0)) from fun wx _ x hx hr=>by
        obtain⟨hML,-⟩:=oO hr;obtain⟨gg,eg,jM⟩:=hr.some (by omega);simp only[Qw.injEq,Addr.mk.injEq,and_true] at eg;subst eg;exact jM x (by omega))
       obtain⟨e1,uF⟩:∃ e1:Nat,R.getD (1 % R.length) 0=e1:=⟨(R.getD (1 % R.length) 0).toNat,by have:=HRM.out _ (Plain.aZ (show 1 % R.length<R.length from Qu _ Zr));omega⟩;have HE1:=lh uF;have YK:A.getD d 0=(e1:Int):=by
        have h:=hRA 0 Zr;rw[hR0,Qf,Qj,uF] at h;exact h
       have HA1:=lh YK;have idx:bn (d:Int):=bn.mk (by omega) (by omega);clear hv hJ hdJ hdM yO hR NJ hJe hgi wU bh PO hd hl hR0 hRA uF YK J4
       go_wp2_with fail
       refine (dy _ g d _ pG Mk Cb.out).mono ?_;rw[Oj.out];rintro e w9 ⟨rfl,hc9⟩;obtain⟨va,vc,nt,nr,Ni,p1,p2,p3,p4,⟨ts1,p5⟩,p6⟩:=Az (l:=[]) (x:=(d:Int)) (Yh.out.fresh hc9) zL (by rw[Dn zL,if_pos hT]) idx (by simp);simp only[List.length_nil,Qj,List.nil_append] at p1 p2 p3 p4 p5 p6;have vH:=lh p2;have Kz:=lh (p6 _ (HCT.out.t hc9) HTB.out);have hrA:=HAF.out.aM Kz.out (by simp);have ac:=IB.out _ (Qd trivial) d anA hrA;rw[HA1.out] at ac;have anh:=lh p5;clear p2 p5 p6 hrA s0 s1 hc9
       go_wp2_with (at_builtin;refine ki rfl _ _ 25 rfl rfl rfl vH.out ?_)
       clear ac p1 p3 p4 vH;generalize Ni.setCell ⟨tb,v,none⟩ (.slice nt 1 nr)=Fk at *
       go_loopg [15] (R.length+1) (fun fuel c wx=>∃ kk:Nat,1<=kk/\kk<=R.length/\c=.int .i64 (R.getD (kk % R.length) 0)/\(∃ ts,bF wx tb 25 1 (.slice (some ⟨tb,0,none⟩) N N) N ts ((fN g b aa N J).set v (.row (R.take kk))))/\ai [] wz wx/\R.length<fuel+kk/\fuel<=R.length+1)
       case atStart=>exact⟨1,Qc _,by omega,by rw[HE1.out],⟨ts1,by rw[Sf.out];exact anh.out⟩,Kz.out,by omega,Qc _⟩
       case round =>
        obtain⟨kk,SU,hkR,rfl,⟨ts2,gL⟩,Kx,hfu,uZ⟩:=hrel;have Sb:=lh gL;have Ws:=lh Kx;by_cases qN:kk<R.length
        ·have sI:kk % R.length=kk:=Nat.mod_eq_of_lt qN
         obtain⟨xm,IM⟩:∃ xm:Nat,R.getD kk 0=xm:=⟨(R.getD kk 0).toNat,by have:=HRM.out _ (Plain.aZ qN);omega⟩;have hxM:=HRM.out _ (Plain.aZ qN);rw[IM] at hxM;have aj3:xm<M:=by omega
         have Ob:¬ (xm:Int)=(d:Int):=by
          intro e;have h1:=Plain.gT HRN.out qN;have h2:=Plain.gT HRN.out Zr;rw[IM,e,<-HR0.out,h2] at h1;omega
         have atg:((xm:Int)==(d:Int))=false:=by rw[beq_eq_false_iff_ne];exact Ob
         have SN:(kk+1) % R.length<R.length:=Qu _ Zr;obtain⟨e2,JU⟩:∃ e2:Nat,R.getD ((kk+1) % R.length) 0=e2:=⟨(R.getD ((kk+1) % R.length) 0).toNat,by have:=HRM.out _ (Plain.aZ SN);omega⟩;have hA2:A.getD xm 0=(e2:Int):=by
          have h:=HRA.out kk qN;rw[IM,Qf,JU] at h;exact h
         have HA2:=lh hA2;have Kj:=lh JU;have ixx:bn (xm:Int):=bn.mk (by omega) (by omega);have oW:(R.take kk).length=kk:=by rw[List.length_take];omega
         have sE:=lh (show R.take kk++[(xm:Int)]=R.take (kk+1) by
          rw[List.take_add_one,<-IM];simp[Qn,qN])
         obtain⟨va,vc,nt,nr,KM,p1,p2,p3,p4,⟨ts3,p5⟩,p6⟩:=Az (l:=R.take kk) (x:=(xm:Int)) gL zL (by rw[List.getElem?_set_self (by simp[fN];exact zL)]) ixx (by rw[oW];omega);rw[oW] at p1 p2 p3 p5 p6;rw[sE.out,Pq] at p5;have vH:=lh p2;have Bn:=lh (p6 _ Kx HTB.out);have hrA:=HAF.out.aM Bn.out (by simp);have ac:=IB.out _ (Qd trivial) xm aj3 hrA;rw[HA2.out] at ac;have Vd:=lh p5;have hxi:(xm:Int)<(M:Int):=by omega
         have hgp:0<gk:=by omega
         have G7:R.length<gk - 1+(kk+1):=by omega
         have Cp:gk - 1<=R.length+1:=by omega
         rw[sI,IM];clear p2 p5 p6 hrA gL Kx IM hxM sI oW JU hA2 hfu uZ Ob
         go_wp2_with (at_builtin;refine ki rfl _ _ 25 rfl rfl rfl vH.out ?_)
         go_roundg (gk - 1)
         case measure=>omega
         case rel=>exact⟨kk+1,by omega,by omega,by rw[Kj.out],⟨ts3,Vd.out⟩,Bn.out,G7,Cp⟩
        have e:kk=R.length:=by omega
        subst e;have sI:R.length % R.length=0:=Nat.mod_self _;rw[sI,HR0.out];rw[List.take_length] at Sb;clear sI gL Kx hfu uZ qN;go_wp2;exact⟨⟨j+1,hj3,by have:=YB.out;congr 1;omega,ts2,by rw[HJE.out,<-SL.out];exact Sb.out,Ws.out⟩,by simp[intOf];omega⟩
      have GU:=lh (GB (aa:=aa) (N:=N) hJ zL yO hT);rw[if_neg hT,hR] at NJ;have hRl:0<R.length:=by
       obtain⟨y,hy⟩:=List.exists_mem_of_ne_nil _ hT;unfold Plain.bX at hy;obtain⟨Gq,J5⟩:=List.mem_filter.1 hy;have h3:=(HF.out.js.mem v (by omega) (by rw[sB.out];omega) y).2 ⟨List.mem_of_mem_take Gq,of_decide_eq_true J5⟩;rw[<-hR];exact List.length_pos_of_mem ((Plain.fO _).mem_iff.2 h3)
      obtain⟨ro,rcc,er⟩:=NJ.shape;rw[er] at J4;clear hv hJ hdJ hdM yO hT hR NJ er hJe hgi wU bh PO hd
      go_wp2_with fail
      refine (dy _ g d _ pG Mk Cb.out).mono ?_;rw[Oj.out];rintro e w9 ⟨rfl,hc9⟩;have t9:=hc9.c J4;have Fg:=lh (HCY.out.t hc9);have HN9:=lh (Yh.out.fresh hc9);clear hc9 J4 s0 s1;go_wp2;exact⟨⟨j+1,hj3,by have:=YB.out;congr 1;omega,_,by rw[HJE.out,<-GU.out];exact HN9.out,Fg.out⟩,by simp[intOf];omega⟩
     have e2:j=2:=by omega
     subst e2;have mj:¬ ((2*en+2:Nat):Int)<=2*(en:Int)+1:=by omega
     go_wp2;refine⟨⟨k+1,by omega,by go_num,_,by rw[show 2*(k+1)=2*k+2 by omega];exact Yh.out,HCT.out⟩,by simp[intOf];omega⟩
   have e:k=b.e.length:=by omega
   subst e;clear aU hk;go_wp2;go_ret;have sK:=lK.out;rw[<-FI.out,KD HF.out.js sB.out] at sK;exact⟨tb,ts,rfl,sK.base (by rw[<-HTB.out];exact Nat.le_trans eV.out.size yR.out.size),(eV.out.t yR.out).t Ch.out⟩
end Go.Proofs.YtbkjljffnkdcjaaGreat
namespace Go.Proofs.YtbkjljffnkdcjaaGreat.Plain
def VO (g:Gr) (e:Int):List (List Int):=if (g.at e).1=(g.at e).2 then [[2*e],[2*e+1]] else [[2*e,2*e+1]]
def jU (g:Gr) (b:Pt):Option (List (List Int)):=if b.e.length=1 then some (VO g (b.e.getD 0 0)) else (nj g b.v b.e.length (fJ g b)).map (·.aj)
def iZ (g:Gr) (b:Pt) (err:Int) (t:List (List Int)):Prop :=
 (b.err g≠0/\err=b.err g/\t=[])\/(b.err g=0/\¬ cg g b/\err=10/\t=[])\/(b.err g=0/\cg g b/\(2<b.e.length/\qJ g b/\jU g b=none)/\err=8/\t=[]) \/
  (b.err g=0/\cg g b/\err=0/\∃ aa F,jU g b=some F/\cL g b aa F/\t=aa.map first)
theorem iZ.bad {g:Gr} {p:Pt} {err:Int} {t:List (List Int)} (h:iZ g p err t) (h0:p.err g≠0):err=p.err g/\t=[]:=by
 rcases h with ⟨-,h1,h2⟩ | ⟨h,-⟩ | ⟨h,-⟩ | ⟨h,-⟩
 ·exact⟨h1,h2⟩
 ·exact absurd h h0
 ·exact absurd h h0
 exact absurd h h0
theorem iZ.split {g:Gr} {p:Pt} {err:Int} {t:List (List Int)} (h:iZ g p err t) (h0:p.err g=0) (hs:¬ cg g p):err=10/\t=[]:=by
 rcases h with ⟨h,-⟩ | ⟨-,-,h1,h2⟩ | ⟨-,h,-⟩ | ⟨-,h,-⟩
 ·exact absurd h0 h
 ·exact⟨h1,h2⟩
 ·exact absurd h hs
 exact absurd h hs
theorem Pr {g:Gr} {p:Pt} (h0:p.err g=0) (hs:cg g p):p.v≠[]:=fun q=>by
 obtain⟨e,l,he,-⟩:=hs.1;have:=((Pt.aF h0).ends e (by rw[he];simp)).1;rw[q] at this;simp at this
end Go.Proofs.YtbkjljffnkdcjaaGreat.Plain
namespace Go.Proofs.YtbkjljffnkdcjaaGreat
open Go.RowKit Go.Maps
theorem qP (w:World):eC w (.slice none 0 0) []:=⟨none,0,rfl,by simp,by simp⟩
theorem bF.reads {w:World} {B n:Nat} {ov:Value} {xs:List Value} {ll:List (List Int)} (h:bF w B 25 1 ov n xs (ll.map Cell.row)):eC w ov ll/\n=ll.length:=by
 have hn:n=ll.length:=by
  have h1:=h.len;have h2:=h.cells;simp at h1;omega
 subst hn;refine⟨?_,rfl⟩;obtain⟨ao,c,e⟩:=h.shape;have j5:ll.length<=9223372036854775807:=by
  rcases h.out.2 with ⟨-,q⟩ | ⟨g',c',cur,q,-,-,h3,h4,-⟩
  ·omega
  simp[maxLen] at h4;omega
 refine⟨ao,c,e,j5,fun i hi=>?_⟩;have xp:xs.length=ll.length:=by have:=h.cells;omega
 obtain⟨g',c',e2⟩:=h.some (by omega);rw[e2] at e h;simp only[Qi.injEq] at e;have hr:=h.row (k:=i) (l:=ll.getD i []) (by rw[Qs];simp[Qn,hi]);refine⟨g',0,xs.getD i undef,e.1.symm,by rw[Qj];exact h.cell (by omega),?_,hr.ints⟩;rcases hr.1.2 with ⟨q,-⟩ | ⟨g2,c2,cur,q,-,-,h3,h4,-⟩
 ·rw[q];exact⟨none,0,0,rfl,by simp,by simp⟩
 exact⟨_,_,_,q,h3,by simpa[maxLen] using h4⟩
theorem Tr {g:Plain.Gr} {b p:Plain.Pt} {s:Plain.Sk} {aa:List (List Int)} (h:Plain.rD g b s p aa):s.rest.length<=s.left:=by
 unfold Plain.Sk.left;refine Plain.nb (f:=fun c:Plain.bj=>c.ah) fun r hr=>?_;have h2:=(h.lV r hr).two;obtain⟨v,hv⟩:=List.exists_mem_of_length_pos (l:=r.ends) (by omega);rw[(h.lV r hr).ends] at hv;obtain⟨-,e,he,-⟩:=Plain.bs.1 hv;exact List.ne_nil_of_mem he
theorem DN {g:Plain.Gr} {p:Plain.Pt} {e N:Nat} (_hp:Plain.aH g p) (hr:p.e.Pairwise (·<·)) (he:p.e=[(e:Int)]) (hN:g.n=N):kO g e 2 N=((Plain.eZ g p).map Plain.first).map Cell.row:=by
 refine Qg (by simp[kO,Plain.eZ,hN]) fun i h1 h2=>?_;simp only[kO,Plain.eZ,Qh,Qe];rw[Plain.O5 he]
 congr 1
 symm;refine Plain.E2 fun k hk=>?_;have hs:(Plain.a8 g p i).Pairwise (·<·):=(Plain.kL hr).filter _;rcases Nat.eq_zero_or_pos k with q | q
 ·rw[q];exact Int.le_refl _
 have h0:0<(Plain.a8 g p i).length:=by omega
 have:=(List.pairwise_iff_getElem.1 hs) 0 k h0 hk q;simp only[Qn,Qm h0,Qm hk,Option.getD_some];omega
set_option maxRecDepth 100000 in
set_option maxHeartbeats 8000000 in
theorem tj (vg vp:Value) (g:Plain.Gr) (p:Plain.Pt) (w:World) (pO:p.v.length<=100000) (hg:dU w vg g) (hp:gD w vp p) :
  Calls Tryz.prog 14 #[vg,vp] w fun e w'=>∃ v err t,e=.returned (.tuple #[v,.int .i64 err])/\Plain.iZ g p err t/\eC w' v t/\ai [] w w':=by
 have HG:=lh hg;have HP:=lh hp;obtain⟨eo,cap,rfl,hn,hm,dS,aO⟩:=hg;obtain⟨v1,v2,rfl,hv,he⟩:=hp;obtain⟨ao,ac,rfl,has,KZ,cD⟩:=hv;obtain⟨bo,bc,rfl,la,vD,bT⟩:=he;have IB:=lh cD;have Ci:=lh bT;have VA:=lh has;have Sv:=lh la;obtain⟨-,-,cG⟩:=dq w #[.int .i64 g.n,.slice eo g.e.length cap] #[.slice ao p.v.length ac,.slice bo p.e.length bc] 24 27;have b8:=lh cG;have eE:=lh (fun w2 h=>im w (g:=g) (p:=p) (eo:=eo) (ao:=ao) (bo:=bo) (cap:=cap) (ac:=ac) (bc:=bc) (w2:=w2) h);clear aO cD bT dS has la hn cG;obtain⟨x0,x1,y0,y1,di⟩:=eE.out _ (ai.refl _ _)
 go_enter Tryz.func14,Tryz.ntmps14
 go_wp2_with fail
 obtain⟨w1,sA⟩:∃ w1,((w.alloc (.cells #[.int .i64 g.n,.slice eo g.e.length cap] 24)).alloc (.cells #[.slice ao p.v.length ac,.slice bo p.e.length bc] 27))=w1:=⟨_,rfl⟩;rw[sA] at b8 eE ⊢;clear sA x0 x1 y0 y1 di;refine (fw _ _ g p _ (by omega) (HG.out.fresh b8.out) (HP.out.fresh b8.out)).mono ?_;rintro e w2 ⟨rfl,bG⟩;have cA:=lh (b8.out.t bG);have alK:=lh bG;obtain⟨x0,x1,y0,y1,di⟩:=eE.out _ bG;clear bG;by_cases h0:p.err g=0
 ·rw[h0]
  have H0:=lh h0;clear h0
  go_wp2_with fail
  refine (xU _ _ g p _ pO (HG.out.fresh cA.out) (HP.out.fresh cA.out)).mono ?_;rintro e w3 ⟨rfl,dB⟩;have dD:=lh (cA.out.t dB);have agd:=lh (alK.out.t dB);clear dB x0 x1 y0 y1 di;obtain⟨x0,x1,y0,y1,di⟩:=eE.out _ agd.out;cases hs:Plain.kE g p with
  | false =>
   have Wv:¬ Plain.cg g p:=fun q=>by rw[Plain.jm.2 ⟨H0.out,q⟩] at hs;cases hs
   clear hs;go_wp2;refine bodyPost_ret (v:=.tuple #[.slice none 0 0,.int .i64 10]) (by simp[results,Tryz.results14,go_sem]) rfl ?_;exact⟨_,10,[],rfl,Qd (Qo ⟨H0.out,Wv,rfl,rfl⟩),qP _,dD.out⟩
  | true =>
   have EJ:Plain.cg g p:=(Plain.jm.1 hs).2;have BC:=lh EJ;have mn:0<p.e.length:=by
    obtain⟨e0,l,he,-⟩:=EJ.1;rw[he];simp
   clear hs EJ;have sy:=lh (Plain.Pt.aF H0.out);have mH:=lh (Plain.Pt.aP H0.out);have j7:=lh (Plain.Gr.aP mH.out.1);obtain⟨N,hN⟩:∃ N:Nat,g.n=N:=⟨g.n.toNat,by have:=j7.out.1;omega⟩;have HN:=lh hN;have nz:p.e.length<=1024:=by
    have h1:=fY mH.out.2.2.1;have h2:=j7.out.2.2.1;have h3:=j7.out.1;omega
   by_cases h1:p.e.length=1
   ·have H1:=lh h1
    obtain⟨e,he⟩:∃ e,p.e=[e]:=List.length_eq_one_iff.1 h1;have sC:0<=e/\e<g.e.length:=by
     have:=Plain.ct mH.out.2.2.1 (i:=0) (by omega);rw[he] at this;exact⟨this.1,this.2.1⟩
    obtain⟨en,kQ⟩:∃ en:Nat,e=en:=⟨e.toNat,by omega⟩;subst kQ;have HE:=lh he;have TW:en<g.e.length:=by omega
    obtain⟨bb,rh,rfl,rR⟩:=Ci.out (by rw[he];simp);have ce:=dD.out.c (rR 0 (by omega));rw[he,Nat.add_zero] at ce;have eG:((p.e.length:Int)==1)=true:=by rw[h1];rfl
    have Cd:0<p.e.length:=mn;have ce':w3.cell? ⟨bb,rh,none⟩=some (.int .i64 (en:Nat)):=ce;clear rR he sC ce hN
    go_wp2_with fail
    have aD:ai [] w3 w3.drew:=(ai.refl [] w3).drew;refine au (ai [] w3) [0,1,2,3,4,6,7] (Way.line [0,1,2,3,4,5,6,7] .done) (by kernel_rfl) (by kernel_rfl) ?_;simp only[Way.line]
    repeat
     first
      | (refine ar rfl (by rfl) (by rfl) (fun _ _ _ h=>h) aD ?_;simp only[Qb,Z1,Z2,Z3,Z4,Z5,Z6])
      | (refine aq (v:=?_) rfl (by rfl) (by rfl) (fun _ _ _ h=>h) aD (fun w' aK=>?_) ?_;rotate_left;(focus (have fU:=aK.c x0;have gX:=aK.c x1;have nP:=aK.c y0;have Fx:=aK.c y1;have rd4:=aK.c ce';clear aK;go_simp;try with_reducible rfl));simp only[Qb,Z1,Z2,Z3,Z4,Z5,Z6])
      | (refine ak rfl (by rfl) (by rfl) aD ?_;simp only[Qb,Z1,Z2,Z3,Z4,Z5,Z6])
    refine aC rfl (by rfl) (by rfl) (fun K hK=>?_);go_simp;refine (GI _ g en N _ mH.out.1 HN.out TW ((HG.out.fresh dD.out).fresh aD)).mono ?_;rintro e w4 ⟨ob,ts,rfl,Wv,iW⟩;have bD:ai [] w3 w4:=aD.t iW;refine hK.out _ _ (fun _=>bD) ?_;clear hK K aD iW
    try simp only[Qb,Z1,Z2,Z3,Z4,Z5,Z6]
    repeat
     first
      | (refine ar rfl (by rfl) (by rfl) (fun _ _ _ h=>h) bD ?_;simp only[Qb,Z1,Z2,Z3,Z4,Z5,Z6])
      | (refine aq (v:=?_) rfl (by rfl) (by rfl) (fun _ _ _ h=>h) bD (fun w' aK=>?_) ?_;rotate_left;(focus (skip;clear aK;go_simp;try with_reducible rfl));simp only[Qb,Z1,Z2,Z3,Z4,Z5,Z6])
      | (refine ak rfl (by rfl) (by rfl) bD ?_;simp only[Qb,Z1,Z2,Z3,Z4,Z5,Z6])
    refine aB ?_;rw[DN sy.out (Plain.bY mH.out.2.2.1) HE.out HN.out] at Wv;have HNS:=lh Wv;have kh:=lh (dD.out.t bD);clear Wv bD ce' x0 x1 y0 y1;go_wp2;refine bodyPost_ret (v:=.tuple #[.slice (some ⟨ob,0,none⟩) N N,.int .i64 0]) (by simp[results,Tryz.results14,go_sem]) rfl ?_;have HDF:=lh (show Plain.jU g p=some (Plain.VO g (en:Int)) from by unfold Plain.jU;rw[if_pos H1.out,HE.out];rfl);refine⟨_,0,_,rfl,Qd (Qd (Qd ⟨H0.out,BC.out,rfl,Plain.eZ g p,_,HDF.out,Plain.xi H0.out HE.out (fun v=>?_),rfl⟩)),HNS.out.reads.1,kh.out⟩;constructor
    ·intro hv
     obtain⟨d,hd,e1⟩:=BC.out.2 v hv;have h2:=Plain.aw.1 hd;rw[HE.out,Qa] at h2;rcases Plain.iC g d with ⟨j1,-⟩ | ⟨j1,-⟩
     ·left;rw[<-e1,j1,h2]
     right;rw[<-e1,j1,h2]
    have:=sy.out.ends (en:Int) (by rw[HE.out];simp);rintro (r | r)
    ·rw[r];exact this.1
    rw[r];exact this.2
   have h2:2<=p.e.length:=by omega
   have eG:((p.e.length:Int)==1)=false:=by rw[beq_eq_false_iff_ne];omega
   clear hN
   go_wp2_with fail
   refine (KR _ _ g p N _ H0.out HN.out mn (HG.out.fresh dD.out) (HP.out.fresh dD.out)).mono ?_;rintro e w4 ⟨sb,ob,vE,fv,rv,xs,ys,rfl,FB,Ef,iW⟩;obtain⟨p1,Og,jP,V3⟩:=Plain.EL H0.out BC.out h2 Ef;have GU:=lh FB;have HOK:=lh jP;have HLF:=lh V3;have HPA:=lh Ef;have XG:=lh (show Plain.jU g p=(Plain.nj g p.v p.e.length (Plain.fJ g p)).map (·.aj) from by unfold Plain.jU;rw[if_neg h1]);clear FB Ef iW jP V3 x0 x1 y0 y1 di
   go_wp2_with fail
   go_loopg [8,9] (p.e.length+1) (fun fuel c8 c9 wx=>∃ (fv rv:Value) (xs ys:List Value) (s:Plain.Sk) (p1:Plain.Pt) (Og:List (List Int)),CZ w3 wx sb ob N g vE fv rv xs ys s/\Plain.rD g p s p1 Og/\s.left+2<=p.e.length/\s.left<fuel/\fuel<=p.e.length+1/\Hid (∃ m,s.left<=m/\(Plain.nj g p.v m s).map (·.aj)=Plain.jU g p))
   case atStart=>exact⟨fv,rv,xs,ys,_,p1,Og,GU.out,HOK.out,HLF.out,by have:=HLF.out;omega,Qc _,lh ⟨p.e.length,by have:=HLF.out;omega,XG.out.symm⟩⟩
   case round =>
    obtain⟨fv2,rv2,Ig,ys2,s,p2,Rr,FB,jP,EU,zH,hl3,HM⟩:=hrel;have uQ:=lh FB;have CS:=lh jP;have Cq:=Tr jP;have q4:=FB.base.q4;obtain⟨ro,rc,hrs⟩:=FB.rest.shape;subst hrs;have Ch:=lh FB.base.aM;obtain⟨x0,x1,y0,y1,-⟩:=eE.out _ (agd.out.t Ch.out);by_cases hr:s.rest=[]
    ·have FD:s.rest.length=0:=by rw[hr];rfl
     have HDN:=lh (show Plain.jU g p=some s.aj from by
      obtain⟨m,-,hm⟩:=HM.out;rw[<-hm,Plain.Aq hr];rfl)
     have Fh:=lh (Plain.ET H0.out BC.out jP hr);rw[FD] at q4;clear FB jP EU zH hl3 Cq hr FD
     go_wp2_with fail
     refine (Lm w3 _ sb ob N vE _ _ _ Ig ys2 g p s Rr uQ.out Fh.out ((HP.out.fresh dD.out).fresh Ch.out)).mono ?_;rintro e w7 ⟨tb,ts,rfl,Wv,hc7⟩;have HNS:=lh Wv;have nm:=lh ((dD.out.t Ch.out).t hc7);clear Wv hc7 q4 x0 x1 y0 y1;go_wp2;refine bodyPost_ret (v:=.tuple #[.slice (some ⟨tb,0,none⟩) N N,.int .i64 0]) (by simp[results,Tryz.results14,go_sem]) rfl ?_;exact⟨_,0,_,rfl,Qd (Qd (Qd ⟨H0.out,BC.out,rfl,Rr,_,HDN.out,Fh.out,rfl⟩)),HNS.out.reads.1,nm.out⟩
    have Ij:0<s.rest.length:=List.length_pos_iff.2 hr;have AJ:=Plain.OC jP hr;have HR:=lh hr;have ale:s.rest.length<1000000:=by omega
    have h3:2<p.e.length:=by omega
    clear FB jP hr
    go_wp2_with fail
    refine (GP sb w3.heap.size _ ys2 s.rest _ ale q4 uQ.out.rest).mono ?_;rintro e w7 ⟨rfl,rfl⟩;cases dI:Plain.choose s.rest with
    | none =>
     rw[sf dI];have HDN:=lh (show Plain.jU g p=none from by
      obtain⟨m,mh,hm⟩:=HM.out;obtain⟨m',rfl⟩:∃ m',m=m'+1:=⟨m - 1,by omega⟩;rw[<-hm,Plain.Iu HR.out dI];rfl)
     clear dI;go_wp2;refine bodyPost_ret (v:=.tuple #[.slice none 0 0,.int .i64 8]) (by simp[results,Tryz.results14,go_sem]) rfl ?_;exact⟨_,8,[],rfl,Qd (Qd (Qo ⟨H0.out,BC.out,⟨h3,HPA.out,HDN.out⟩,rfl,rfl⟩)),qP _,dD.out.t Ch.out⟩
    | some i =>
     rw[rC dI];obtain⟨hi,hif⟩:=Plain.uk HR.out dI;obtain⟨p3,acO,acV,akB⟩:=Plain.Ra H0.out BC.out CS.out hi hif;have HK3:=lh acV;have M4:=lh (show ∃ m,(s.put g p.v i).left<=m/\(Plain.nj g p.v m (s.put g p.v i)).map (·.aj)=Plain.jU g p from by
      obtain⟨m,mh,hm⟩:=HM.out;obtain⟨m',rfl⟩:∃ m',m=m'+1:=⟨m - 1,by omega⟩;exact⟨m',by omega,by rw[<-hm,Plain.xd HR.out dI]⟩)
     have hgp:0<gk:=by omega
     have G7:(s.put g p.v i).left<gk - 1:=by omega
     have Cp:(s.put g p.v i).left+2<=p.e.length:=by omega
     have hg3:gk - 1<=p.e.length+1:=by omega
     clear dI acV q4 x0 x1 y0 y1 EU zH hl3 akB Cq Ij AJ h3
     go_wp2_with fail
     refine (KY w3 _ sb ob N i vE fv2 _ Ig ys2 g p s p2 Rr uQ.out H0.out CS.out hi hif).mono ?_;rintro e w8 ⟨rfl,fv4,rv4,xs4,ys4,hs4⟩;have HS4:=lh hs4;clear hs4 hi hif;go_wp2
     go_roundg (gk - 1)
     case measure=>omega
     case rel=>exact⟨fv4,rv4,xs4,ys4,_,p3,acO,HS4.out,HK3.out,Cp,G7,hg3,M4⟩
 have lK:=lh h0;have Nw:Hid (Plain.iZ g p (p.err g) []):=lh (Qo ⟨h0,rfl,rfl⟩);obtain⟨er,qK⟩:∃ er,p.err g=er:=⟨_,rfl⟩;rw[qK] at Nw h0 ⊢;have hb:(er != 0)=true:=by simpa using h0
 have fh:¬ er=0:=h0;clear lK qK;go_wp2;refine bodyPost_ret (v:=.tuple #[.slice none 0 0,.int .i64 er]) (by simp[results,Tryz.results14,go_sem]) rfl ?_;exact⟨_,er,[],rfl,Nw.out,qP _,cA.out⟩
theorem OJ:pD 22 75 (.agg #[.int .i64 0,.int .i64 0]) 2 16:=⟨Tryz.underlying22,by kernel_rfl,rfl,by decide,by decide⟩
def eL:List (Int × Int)->List Value
 | []=>[]
 | x :: l=>.int .i64 x.1 :: .int .i64 x.2 :: eL l
theorem lC:∀ {l:List (Int × Int)} {i:Nat},i<l.length->(eL l)[i*2]?=some (.int .i64 (l.getD i (0,0)).1)/\(eL l)[i*2+1]?=some (.int .i64 (l.getD i (0,0)).2)
 | [],i,h=>by simp at h
 | x :: l,0,_=>⟨rfl,rfl⟩
 | x :: l,i+1,h=>by
  have ih:=lC (l:=l) (i:=i) (by simpa using h);rw[show (i+1)*2=i*2+1+1 by omega];refine⟨?_,?_⟩
  ·show (eL l)[i*2]?=_
   rw[ih.1];rfl
  show (eL l)[i*2+1]?=_;rw[ih.2];rfl
theorem yp (l:List (Int × Int)) (x:Int × Int):eL (l++[x])=eL l++[.int .i64 x.1,.int .i64 x.2]:=by
 induction l with
 | nil=>rfl
 | cons y l ih=>show _ :: _ :: eL (l++[x])=_;rw[ih];rfl
theorem DC {w:World} {B:Nat} {v:Value} {g:Plain.Gr} (hn:bn g.n) (hs:∀ i,i<g.e.length->bn (g.ends i).1/\bn (g.ends i).2) (hl:g.e.length<=100000) (h:w.ownsRow B 75 2 v g.e.length (eL g.e)):dU w (.agg #[.int .i64 g.n,v]) g:=by
 rcases h.2 with ⟨rfl,h0⟩ | ⟨b,cap,cur,rfl,hb,hh,tI,lN,jQ,Sm⟩
 ·exact⟨none,0,by rw[h0],hn,by omega,hs,fun i hi=>by omega⟩
 refine⟨_,cap,rfl,hn,by omega,hs,fun i hi=>⟨b,0,rfl,?_,?_⟩⟩
 ·rw[Qj,cell_of_row w _ (i*2) cur 75 (0,0) hh]
  have q:=(lC hi).1;rw[<-Sm,Qr,if_pos (by omega)] at q;simpa[Plain.Gr.ends] using q
 rw[Qj,cell_of_row w _ (i*2+1) cur 75 (0,0) hh];have q:=(lC hi).2;rw[<-Sm,Qr,if_pos (by omega)] at q;simpa[Plain.Gr.ends] using q
def gF (a b:Nat):List (Int × Int):=((Qq a).flatMap fun i=>(Qq (4 - i)).map fun k=>((i:Int),((i+1+k:Nat):Int)))++(Qq (b - (a+1))).map fun k=>((a:Int),((a+1+k:Nat):Int))
theorem DM:∀ a:Nat,a<5->∀ b:Nat,b<5->a<b->gF a (b+1)=gF a b++[((a:Int),(b:Int))]:=by decide
theorem Iy:∀ a:Nat,a<5->gF a 5=gF (a+1) (a+2):=by decide
theorem Ie:∀ a:Nat,a<6->∀ b:Nat,b<8->(gF a b).length<=30:=by decide
theorem Yx {w:World} {b:Nat} (h:w.heap[b]?=some (.cells #[.int .i64 0,.int .i64 1,.int .i64 0,.int .i64 1] 75 (0,0))):dU w (.agg #[.int .i64 2,.slice (some ⟨b,0,none⟩) 2 2]) Plain.gW :=
 DC (g:=Plain.gW) (B:=0) (bn.mk (by decide) (by decide)) (fun i hi=>by
  rcases (show i=0\/i=1 by have:i<2:=hi;omega) with rfl | rfl <;> exact⟨bn.mk (by decide) (by decide),bn.mk (by decide) (by decide)⟩) (by decide) ⟨rfl,Qd ⟨b,2,_,rfl,Qp _,h,Qc _,by decide,rfl,rfl⟩⟩
theorem adf (w:World):eC (((w.alloc (.cells #[.int .i64 0,.int .i64 2] 3)).alloc (.cells #[.int .i64 1,.int .i64 3] 3)).alloc (.cells #[.slice (some ⟨w.heap.size,0,none⟩) 2 2,.slice (some ⟨w.heap.size+1,0,none⟩) 2 2] 25)) (.slice (some ⟨w.heap.size+1+1,0,none⟩) 2 2) Plain.tW:=by
 have hs1:(w.alloc (.cells #[.int .i64 0,.int .i64 2] 3)).heap.size=w.heap.size+1:=by simp
 have FC:((w.alloc (.cells #[.int .i64 0,.int .i64 2] 3)).alloc (.cells #[.int .i64 1,.int .i64 3] 3)).heap.size=w.heap.size+1+1:=by simp
 have l0:=oJ w (x:=0) (y:=2) (bn.mk (by decide) (by decide)) (bn.mk (by decide) (by decide));have l1:=oJ (w.alloc (.cells #[.int .i64 0,.int .i64 2] 3)) (x:=1) (y:=3) (bn.mk (by decide) (by decide)) (bn.mk (by decide) (by decide));rw[hs1] at l1;have hb:=heap_alloc_new ((w.alloc (.cells #[.int .i64 0,.int .i64 2] 3)).alloc (.cells #[.int .i64 1,.int .i64 3] 3)) (.cells #[.slice (some ⟨w.heap.size,0,none⟩) 2 2,.slice (some ⟨w.heap.size+1,0,none⟩) 2 2] 25);rw[FC] at hb;have hc:=(ai.refl [] ((w.alloc (.cells #[.int .i64 0,.int .i64 2] 3)).alloc (.cells #[.int .i64 1,.int .i64 3] 3))).alloc (.cells #[.slice (some ⟨w.heap.size,0,none⟩) 2 2,.slice (some ⟨w.heap.size+1,0,none⟩) 2 2] 25);have gy:=((ai.refl [] (w.alloc (.cells #[.int .i64 0,.int .i64 2] 3))).alloc (.cells #[.int .i64 1,.int .i64 3] 3)).t hc;refine⟨_,2,rfl,by decide,fun i hi=>?_⟩;rcases (show i=0\/i=1 by have:i<2:=hi;omega) with rfl | rfl
 ·exact⟨_,0,_,rfl,(cell_of_row _ _ 0 _ _ _ hb).trans rfl,⟨_,2,2,rfl,Qc _,by decide⟩,l0.fresh gy⟩
 exact⟨_,0,_,rfl,(cell_of_row _ _ 1 _ _ _ hb).trans rfl,⟨_,2,2,rfl,Qc _,by decide⟩,l1.fresh hc⟩
namespace Plain
theorem ZX {err:Int} {t:List (List Int)} (h:iZ gW pW err t):err=0/\t=tW:=by
 rcases h with ⟨h,-⟩ | ⟨-,h,-⟩ | ⟨-,-,⟨h,-⟩,-⟩ | ⟨-,-,h,aa,F,-,hF,ht⟩
 ·exact absurd aeK h
 ·exact absurd Yd h
 ·exact absurd h (by decide)
 exact⟨h,by rw[ht];exact LQ hF.js⟩
theorem Yw {err:Int} {t:List (List Int)} (h:iZ gK pK err t):err=8:=by
 rcases h with ⟨h,-⟩ | ⟨-,h,-⟩ | ⟨-,-,-,h,-⟩ | ⟨-,-,-,aa,F,-,hF,-⟩
 ·exact absurd Ye h
 ·exact absurd YH h
 ·exact h
 exact absurd hF OK
end Plain
set_option maxRecDepth 100000 in
set_option maxHeartbeats 4000000 in
theorem C' (w:World):Calls Tryz.prog 53 #[] w fun e w'=>∃ v,e=.returned v/\dU w' v Plain.gK/\ai [] w w':=by
 have eV:=lh (show ai [] w ((w.alloc (.cells #[.int .i64 0,.slice none 0 0] 24)).alloc (.cells #[.int .i64 5,.slice none 0 0] 24)) from (show ai [] w ((w.alloc (.cells #[.int .i64 0,.slice none 0 0] 24)).alloc (.cells #[.int .i64 5,.slice none 0 0] 24)) from (((ai.refl [] w).alloc _).alloc _)));have cK:=heap_alloc_new w (.cells #[.int .i64 0,.slice none 0 0] 24);replace cK:=(show ai [] (w.alloc (.cells #[.int .i64 0,.slice none 0 0] 24)) ((w.alloc (.cells #[.int .i64 0,.slice none 0 0] 24)).alloc (.cells #[.int .i64 5,.slice none 0 0] 24)) from ((ai.refl [] (w.alloc (.cells #[.int .i64 0,.slice none 0 0] 24))).alloc _)).heap cK (by simp);have eN:=heap_alloc_new (w.alloc (.cells #[.int .i64 0,.slice none 0 0] 24)) (.cells #[.int .i64 5,.slice none 0 0] 24);rw[show (w.alloc (.cells #[.int .i64 0,.slice none 0 0] 24)).heap.size=w.heap.size+1 by simp] at eN;have HX:=lh (fun (w2:World) (dL:ai [] ((w.alloc (.cells #[.int .i64 0,.slice none 0 0] 24)).alloc (.cells #[.int .i64 5,.slice none 0 0] 24)) w2)=>(⟨dL.heap cK (by simp),dL.heap eN (by simp),by have hz:=dL.size;simpa using hz⟩:w2.heap[w.heap.size]?=some (.cells #[.int .i64 0,.slice none 0 0] 24 (0,0))/\w2.heap[w.heap.size+1]?=some (.cells #[.int .i64 5,.slice none 0 0] 24 (0,0))/\w.heap.size+2<=w2.heap.size));clear cK eN;have CK:=lh (show ((w.alloc (.cells #[.int .i64 0,.slice none 0 0] 24)).alloc (.cells #[.int .i64 5,.slice none 0 0] 24)).heap.size=w.heap.size+2 by simp);obtain⟨ra,rb,di⟩:=HX.out _ (ai.refl _ _)
 go_enter Tryz.func53,Tryz.ntmps53
 go_wp2_with fail
 generalize ((w.alloc (.cells #[.int .i64 0,.slice none 0 0] 24)).alloc (.cells #[.int .i64 5,.slice none 0 0] 24))=w1 at *;obtain⟨ab,lT⟩:∃ n,w.heap.size=n:=⟨_,rfl⟩;rw[lT] at ra rb di ⊢;have RA:=lh ra;have RB:=lh rb;have HAB:=lh lT;clear lT ra rb
 go_loopw [2,3] (fun c _ wr=>∃ a:Nat,a<=5/\c=.int .i64 a/\∃ v,wr.heap[ab+1]?=some (.cells #[.int .i64 5,v] 24 (0,0))/\wr.ownsRow w1.heap.size 75 2 v (gF a (a+1)).length (eL (gF a (a+1)))/\ai [ab+1] w1 wr) (fun c _ _=>5 - (intOf c).toNat)
 case atStart=>exact⟨0,by omega,rfl,_,RB.out,World.ownsRow_nil _ _ _ _,ai.refl _ _⟩
 case round =>
  obtain⟨a,ha,rfl,v,hh,ho,hc⟩:=hrel;have HH:=lh hh;have HO:=lh ho;have HC:=lh hc;clear hh ho hc;by_cases aU:a<5
  ·have hai:(a:Int)<5:=by omega
   go_wp2_with fail
   go_loopw [3] (fun c wr=>∃ b:Nat,a<b/\b<=5/\c=.int .i64 b/\∃ v,wr.heap[ab+1]?=some (.cells #[.int .i64 5,v] 24 (0,0))/\wr.ownsRow w1.heap.size 75 2 v (gF a b).length (eL (gF a b))/\ai [ab+1] w1 wr) (fun c _=>5 - (intOf c).toNat)
   case atStart=>exact⟨a+1,by omega,by omega,by go_num,v,HH.out,HO.out,HC.out⟩
   case round =>
    obtain⟨b,eG,fh,rfl,v2,hh,ho,hc⟩:=hrel;have HH2:=lh hh;have X3:=lh ho;have cA:=lh hc;clear HH HO HC;by_cases fT:b<5
    ·have Rb:(b:Int)<5:=by omega
     have c1:=(cell_of_row _ _ 1 _ _ _ hh).trans (show _=some v2 from rfl);have Vm:=lh (Ie a (by omega) b (by omega));have Wr:=lh (DM a aU b fT eG);have HB1:=lh hc.size;obtain⟨ao,cp,rfl⟩:=cM ho;have VR:=lh (show ab+1 ∉ (Qi ao (gF a b).length cp).ownBlock.toList from fun q=>by
      have h1:=(ho.lt (ab+1) (by simpa using q)).1;omega)
     obtain⟨L,hL⟩:∃ L,gF a b=L:=⟨_,rfl⟩;rw[hL] at Vm Wr VR X3 c1 HH2;have Se:L.length<=30:=Vm.out;have Mf:=bJ HH2.out 1;clear hh ho hc hL
     go_wp2_with (at_builtin;refine qA OJ rfl _ _ rfl (v:=.slice ao L.length cp) (B:=w1.heap.size) (cs:=#[.int .i64 a,.int .i64 b]) rfl rfl rfl X3.out HB1.out rfl (by intro u hu;simp at hu;rcases hu with rfl | rfl <;> rfl) (by omega) ?_;intro g' eS w' r1 r2 r3;have R1:=lh r1;have R2:=lh r2;have c1':=r2.cell c1 VR.out;have f1':=bJ (r2.heap HH2.out VR.out) 1;clear r1 r2 r3)
     have hh3:=R2.out.heap HH2.out VR.out;have bd:=R1.out;have hk:bI w' (ab+1) 24:=⟨_,_,hh3⟩;have XC:=cf bd (b:=g') rfl;have bw:ai [ab+1] w' (w'.setCell ⟨ab+1,1,none⟩ (.slice (some ⟨g',0,none⟩) (L.length+1) eS)):=(ai.refl _ _).setCell (Qo (by simp)) _;refine⟨⟨b+1,by omega,by omega,by go_num,_,heap_setCell_same hh3 1 _,?_,?_⟩,by simp[intOf];omega⟩
     ·rw[Wr.out,yp,List.length_append]
      exact bE bd bw (fun j hj=>by
       have e:g'=j:=by simpa[Qv] using hj
       rw[Qa,<-e];exact XC.ne hk (by decide))
     exact (cA.out.trans R2.out (fun j hj=>Qd (X3.out.lt j (by simpa using hj)).1)).trans bw (fun j hj=>Qo hj)
    have e:b=5:=by omega
    subst e;have bU:=lh (Iy a aU);rw[bU.out] at X3;clear fT
    go_wp2_with fail
    exact⟨⟨a+1,by omega,by go_num,v2,HH2.out,X3.out,cA.out⟩,by simp[intOf];omega⟩
  have e:a=5:=by omega
  subst e;have h0:=HC.out.heap RA.out (by simp);have c0:=(cell_of_row _ _ 0 _ _ _ HH.out).trans (show _=some (Qk .i64 5) from rfl);have c1:=(cell_of_row _ _ 1 _ _ _ HH.out).trans (show _=some v from rfl);have a0:=(cell_of_row _ _ 0 _ _ _ h0).trans (show _=some (Qk .i64 0) from rfl);have a1:=(cell_of_row _ _ 1 _ _ _ h0).trans (show _=some (Qi none 0 0) from rfl);have f0:=bJ h0 0;have f1:=bJ h0 1;obtain⟨ao,cp,rfl⟩:=cM HO.out;clear aU ha;go_wp2;have sK:=heap_setCell_same (heap_setCell_same h0 0 (.int .i64 5)) 1 (.slice ao (gF 5 6).length cp);have z0:=(cell_of_row _ _ 0 _ _ _ sK).trans (show _=some (Qk .i64 5) from rfl);have z1:=(cell_of_row _ _ 1 _ _ _ sK).trans (show _=some (Qi ao (gF 5 6).length cp) from rfl);have bw:ai [ab] wr ((wr.setCell ⟨ab,0,none⟩ (.int .i64 5)).setCell ⟨ab,1,none⟩ (.slice ao (gF 5 6).length cp)):=((ai.refl _ _).setCell (Qo (by simp)) _).setCell (Qo (by simp)) _;generalize (wr.setCell ⟨ab,0,none⟩ (.int .i64 5)).setCell ⟨ab,1,none⟩ (.slice ao (gF 5 6).length cp)=w9 at *;refine bodyPost_ret (v:=.agg #[.int .i64 5,.slice ao (gF 5 6).length cp]) (by simp[results,Tryz.results53,go_sem,z0,z1]) rfl ?_;have bd:=bE HO.out bw (fun j hj hm=>by
   have h1:=(HO.out.lt j hj).1;rw[Qa] at hm;omega)
  refine⟨_,rfl,DC (g:=Plain.gK) (B:=w1.heap.size) (bn.mk (by decide) (by decide)) (fun i hi=>?_) (by decide) bd,?_⟩
  ·have h1:=(show ∀ i,i<10->(0<=(Plain.gK.ends i).1/\(Plain.gK.ends i).1<5)/\0<=(Plain.gK.ends i).2/\(Plain.gK.ends i).2<5 by decide) i hi
   exact⟨bn.mk (by omega) (by omega),bn.mk (by omega) (by omega)⟩
  refine (eV.out.trans HC.out (fun j hj=>Qd ?_)).trans bw (fun j hj=>Qd ?_)
  ·rw[Qa.1 hj,HAB.out];omega
  rw[Qa.1 hj,HAB.out];exact Qc _
set_option maxRecDepth 100000 in
set_option maxHeartbeats 4000000 in
theorem jH (w:World):Calls Tryz.prog 12 #[] w fun e w'=>e=.returned (.bool true)/\ai [] w w':=by
 have eV:=lh (show ai [] w ((w.alloc (.cells #[.int .i64 0,.int .i64 1,.int .i64 0,.int .i64 1] 75)).alloc (.cells #[.int .i64 2,.slice (some ⟨w.heap.size,0,none⟩) 2 2] 24)) from (show ai [] w ((w.alloc (.cells #[.int .i64 0,.int .i64 1,.int .i64 0,.int .i64 1] 75)).alloc (.cells #[.int .i64 2,.slice (some ⟨w.heap.size,0,none⟩) 2 2] 24)) from (((ai.refl [] w).alloc _).alloc _)));have cK:=heap_alloc_new w (.cells #[.int .i64 0,.int .i64 1,.int .i64 0,.int .i64 1] 75);replace cK:=(show ai [] (w.alloc (.cells #[.int .i64 0,.int .i64 1,.int .i64 0,.int .i64 1] 75)) ((w.alloc (.cells #[.int .i64 0,.int .i64 1,.int .i64 0,.int .i64 1] 75)).alloc (.cells #[.int .i64 2,.slice (some ⟨w.heap.size,0,none⟩) 2 2] 24)) from ((ai.refl [] (w.alloc (.cells #[.int .i64 0,.int .i64 1,.int .i64 0,.int .i64 1] 75))).alloc _)).heap cK (by simp);have eN:=heap_alloc_new (w.alloc (.cells #[.int .i64 0,.int .i64 1,.int .i64 0,.int .i64 1] 75)) (.cells #[.int .i64 2,.slice (some ⟨w.heap.size,0,none⟩) 2 2] 24);rw[show (w.alloc (.cells #[.int .i64 0,.int .i64 1,.int .i64 0,.int .i64 1] 75)).heap.size=w.heap.size+1 by simp] at eN;have HX:=lh (fun (w2:World) (dL:ai [] ((w.alloc (.cells #[.int .i64 0,.int .i64 1,.int .i64 0,.int .i64 1] 75)).alloc (.cells #[.int .i64 2,.slice (some ⟨w.heap.size,0,none⟩) 2 2] 24)) w2)=>(⟨dL.heap cK (by simp),dL.c ((cell_of_row _ _ 0 _ _ _ eN).trans rfl),dL.c ((cell_of_row _ _ 1 _ _ _ eN).trans rfl),by have hz:=dL.size;simpa using hz⟩:w2.heap[w.heap.size]?=some (.cells #[.int .i64 0,.int .i64 1,.int .i64 0,.int .i64 1] 75 (0,0))/\w2.cell? ⟨w.heap.size+1,0,none⟩=some (.int .i64 2)/\w2.cell? ⟨w.heap.size+1,1,none⟩=some (.slice (some ⟨w.heap.size,0,none⟩) 2 2)/\w.heap.size+2<=w2.heap.size));clear cK eN;have CK:=lh (show ((w.alloc (.cells #[.int .i64 0,.int .i64 1,.int .i64 0,.int .i64 1] 75)).alloc (.cells #[.int .i64 2,.slice (some ⟨w.heap.size,0,none⟩) 2 2] 24)).heap.size=w.heap.size+2 by simp);obtain⟨re,g0,g1,-⟩:=HX.out _ (ai.refl _ _)
 go_enter Tryz.func12,Tryz.ntmps12
 go_wp2_with fail
 generalize ((w.alloc (.cells #[.int .i64 0,.int .i64 1,.int .i64 0,.int .i64 1] 75)).alloc (.cells #[.int .i64 2,.slice (some ⟨w.heap.size,0,none⟩) 2 2] 24))=w1 at *;have HGW:=lh (Yx re);clear re;have aD:ai [] w1 w1.drew:=(ai.refl [] w1).drew;refine au (ai [] w1) [0,1,4,5,6,7,8] (Way.line [0,1,2,3,4,5,6,7,8] .done) (by kernel_rfl) (by kernel_rfl) ?_;simp only[Way.line]
 repeat
  first
   | (refine ar rfl (by rfl) (by rfl) (fun _ _ _ h=>h) aD ?_;simp only[Qb,Z1,Z2,Z3,Z4,Z5,Z6])
   | (refine aq (v:=?_) rfl (by rfl) (by rfl) (fun _ _ _ h=>h) aD (fun w' aK=>?_) ?_;rotate_left;(focus (have fU:=aK.c g0;have gX:=aK.c g1;clear aK;go_simp;try with_reducible rfl));simp only[Qb,Z1,Z2,Z3,Z4,Z5,Z6])
   | (refine ak rfl (by rfl) (by rfl) aD ?_;simp only[Qb,Z1,Z2,Z3,Z4,Z5,Z6])
 refine aC rfl (by rfl) (by rfl) (fun K hK=>?_);go_simp;refine (zS _ Plain.gW 2 _ rfl (by decide) (by decide) (HGW.out.fresh aD)).mono ?_;rintro e w2 ⟨v1,v2,rfl,r1,r2,bG⟩;have bD:ai [] w1 w2:=aD.t bG;refine hK.out _ _ (fun _=>bD) ?_;clear hK K aD bG
 try simp only[Qb,Z1,Z2,Z3,Z4,Z5,Z6]
 repeat
  first
   | (refine ar rfl (by rfl) (by rfl) (fun _ _ _ h=>h) bD ?_;simp only[Qb,Z1,Z2,Z3,Z4,Z5,Z6])
   | (refine aq (v:=?_) rfl (by rfl) (by rfl) (fun _ _ _ h=>h) bD (fun w' aK=>?_) ?_;rotate_left;(focus (have fU:=aK.c g0;have gX:=aK.c g1;clear aK;go_simp;try with_reducible rfl));simp only[Qb,Z1,Z2,Z3,Z4,Z5,Z6])
   | (refine ak rfl (by rfl) (by rfl) bD ?_;simp only[Qb,Z1,Z2,Z3,Z4,Z5,Z6])
 refine aC rfl (by rfl) (by rfl) (fun K hK=>?_);go_simp;refine (tj _ _ Plain.gW Plain.pW _ (by decide) (HGW.out.fresh bD) ⟨v1,v2,rfl,r1.ints,r2.ints⟩).mono ?_;rintro e w3 ⟨v3,err,t,rfl,Kv,hrows,dB⟩;obtain⟨rfl,rfl⟩:=Plain.ZX Kv;have iz:ai [] w1 w3:=bD.t dB;have VC:=lh hrows;obtain⟨ro,rc,rfl,-,-⟩:=hrows;refine hK.out _ _ (fun _=>iz) ?_;clear hK K dB
 try simp only[Qb,Z1,Z2,Z3,Z4,Z5,Z6]
 repeat
  first
   | (refine ar rfl (by rfl) (by rfl) (fun _ _ _ h=>h) iz ?_;simp only[Qb,Z1,Z2,Z3,Z4,Z5,Z6])
   | (refine aq (v:=?_) rfl (by rfl) (by rfl) (fun _ _ _ h=>h) iz (fun w' aK=>?_) ?_;rotate_left;(focus (have fU:=aK.c g0;have gX:=aK.c g1;clear aK;go_simp;try with_reducible rfl));simp only[Qb,Z1,Z2,Z3,Z4,Z5,Z6])
   | (refine ak rfl (by rfl) (by rfl) iz ?_;simp only[Qb,Z1,Z2,Z3,Z4,Z5,Z6])
 refine aB ?_;have uQ:=lh iz;clear bD iz r1 r2 Kv g0 g1
 go_wp2_with fail
 refine (C' _).mono ?_;rintro e w4 ⟨v4,rfl,hg4,iW⟩;have HG4:=lh hg4;have kh:=lh (uQ.out.t iW);have Cn:=lh (VC.out.fresh iW);clear iW hg4
 go_wp2_with fail
 refine (C' _).mono ?_;rintro e w5 ⟨v5,rfl,hg5,gV⟩;have HG5:=lh hg5;have akn:=lh (HG4.out.fresh gV);have iP:=lh (kh.out.t gV);have wR:=lh (Cn.out.fresh gV);clear gV hg5
 go_wp2_with fail
 refine (zS _ Plain.gK 5 _ rfl (by decide) (by decide) HG5.out).mono ?_;rintro e w6 ⟨v6,v7,rfl,r6,r7,hc6⟩;have yS:=lh (show gD w6 (.agg #[v6,v7]) Plain.pK from⟨v6,v7,rfl,r6.ints,r7.ints⟩);have HG6:=lh (akn.out.fresh hc6);have ni:=lh (iP.out.t hc6);have VV:=lh (wR.out.fresh hc6);clear hc6 r6 r7
 go_wp2_with fail
 refine (tj _ _ Plain.gK Plain.pK _ (by decide) HG6.out yS.out).mono ?_;rintro e w7 ⟨v8,err,t,rfl,Kv,-,hc7⟩;obtain rfl:=Plain.Yw Kv;have nm:=lh (ni.out.t hc7);have Sh:=lh (VV.out.fresh hc7);clear hc7 Kv
 go_wp2_with fail
 have ES:=adf w7;have ma:=(((ai.refl [] w7).alloc (.cells #[.int .i64 0,.int .i64 2] 3)).alloc (.cells #[.int .i64 1,.int .i64 3] 3)).alloc (.cells #[.slice (some ⟨w7.heap.size,0,none⟩) 2 2,.slice (some ⟨w7.heap.size+1,0,none⟩) 2 2] 25);have xf:=lh (nm.out.t ma);refine (za _ _ Plain.tW Plain.tW _ (Sh.out.fresh ma) ES).mono ?_;rintro e w9 ⟨rfl,hc9⟩;have Fg:=lh (xf.out.t hc9);have yN:decide (Plain.tW=Plain.tW)=true:=by simp
 rw[yN];clear hc9 ES ma;go_wp2;go_ret;exact⟨rfl,eV.out.t Fg.out⟩
end Go.Proofs.YtbkjljffnkdcjaaGreat
