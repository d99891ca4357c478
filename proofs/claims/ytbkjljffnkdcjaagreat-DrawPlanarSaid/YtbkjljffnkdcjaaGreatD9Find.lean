/- block.find: contract. Conditions: what each theorem says. -/
import Derived.Test.YtbkjljffnkdcjaaGreatD9VisW
open List renaming mem_singleton→Qa,getD_cons_zero→Qc,getD_cons_succ→Qd,cons_append→Qf,nil_append→Qg,mem_filter→Qh,range→Qi,mem_cons→Qk,mem_map→Qm,mem_cons_of_mem→Qp,replicate→Qq,mem_append→Qs,mem_range→Qt,setIfInBounds_toArray→Qu,idxOf_lt_length_iff→Qv,length_replicate→Qy,length_filter_le→Qz,getElem?_range→QB,getD→QD,set_cons_zero→QE,set_cons_succ→QF,pairwise_iff_getElem→QG,getElem?_map→QH,length_cons→QJ,not_mem_nil→QK,getElem_cons_zero→QL,getElem_cons_succ→QM,map_append→QN,getElem_toArray→QP,map_cons→QQ,nodup_append→QS,pairwise_map→QT,ext_getElem→QU,take_length→QV,getElem_mem→QW,nodup_range→QX,map_const'→QZ,foldl_cons→Q0,length_nil→Q3,map_nil→Q4
open Or renaming inl→Qb,inr→Ql
open Go.Value renaming slice→Qe,ownBlock→Qx
open Nat renaming le_trans→Qj,lt_of_lt_of_le→Qw,le_of_lt→QC,le_succ_of_le→QI,zero_le→QO,le_refl→Q6
open Go.Act renaming put→Qn
open Bool renaming eq_false_iff→Qo,false_eq_true→QR
open Go.World renaming block_lt_of_cell?→Qr
open Option renaming some→QA,getD_some→QY
namespace Go.Proofs.YtbkjljffnkdcjaaGreat
open Go.RowKit Go.Maps
theorem qR {t e:TypeId} {z:Value} {size bytes:Nat} (E:pD t e z size bytes) {o:Oper} {a:Act} {Q:Exit->Act->World->Prop} {K:Act->World->Prop} {w:World} (l c:Operand) (kU:o.op=Op.makeSlice t l c) {B n:Nat} (hl:a.eval l=.int .i64 n) (hc:a.eval c=.int .i64 n) (hB:B<=w.heap.size) (hn:n<68719476736)
  (hK:∀ w',w'.ownsRow B e size (.slice (some ⟨w.heap.size,0,none⟩) n n) n (madeCells z.cells (n*size)).toList->ai [] w w'->K (a.put o.dst (.slice (some ⟨w.heap.size,0,none⟩) n n)) w'):Oper.wp Tryz.prog o a w K Q:=by
 obtain⟨i0,hi,Dl,jZ,pF⟩:=info_parts E.hi;have hb:=E.hb;obtain⟨w',gC,r1,r2⟩:=run_make_full (P:=Tryz.prog) w B t e i0 z size E.ht hi Dl jZ .i64 .i64 n (by
  rw[pF];exact Qj (Nat.mul_le_mul_right _ hb) (by omega)) (by unfold maxLen;omega) hB
 unfold Oper.wp;simp[execOp,kU,hl,hc,gC,Result.andThen];exact hK w' r1 ((ai.refl _ _).grown r2 (by simp))
theorem oS {w:World} {B n sz g cap q:Nat} {e:TypeId} {xs:List Value} {cs:List Cell} {l:List Int} {x:Int} (h:bF w B e sz (.slice (some ⟨g,0,none⟩) n cap) n xs cs) (he:e≠3) (hB:B<=w.heap.size) (hq:q<xs.length) (hc:cs[q]?=some (.row l)) (hx:bn x) (hn:l.length+1<4294967296) :
  ∃ va vc nt nr w2,w.cell? ⟨g,q,none⟩=some (.slice va l.length vc)/\(Builtin.append_ #[25,25] 25 #[.slice va l.length vc,.slice (some ⟨w.heap.size,0,none⟩) 1 1]).run Tryz.prog (w.alloc (.cells #[.int .i64 x] 3))=.ok (.slice nt (l.length+1) nr) w2 /\
   w2.cell? ⟨g,q,none⟩=some (.slice va l.length vc)/\w2.frozen? ⟨g,q,none⟩=false /\
   bF (w2.setCell ⟨g,q,none⟩ (.slice nt (l.length+1) nr)) B e sz (.slice (some ⟨g,0,none⟩) n cap) n (xs.set q (.slice nt (l.length+1) nr)) (cs.set q (.row (l++[x]))) /\
   (∀ b∈aL (.slice nt (l.length+1) nr),b∈aL (.slice va l.length vc)\/w.heap.size<=b)/\xs.getD q undef=.slice va l.length vc/\ai (g :: aL (.slice va l.length vc)) w (w2.setCell ⟨g,q,none⟩ (.slice nt (l.length+1) nr))/\ai (aL (.slice va l.length vc)) w w2/\g ∉ aL (.slice va l.length vc)/\∀ (b:Nat) (cs:Array Value) (t:TypeId) (r:Nat × Nat),w.heap[b]?=some (.cells cs t r)->t≠3->b ∉ aL (.slice va l.length vc):=by
 have bd:=h.row hc;obtain⟨va,vc,ev⟩:=bd.shape;have aO:=h.cell hq;rw[ev] at aO bd;have ca:ai [] w (w.alloc (.cells #[.int .i64 x] 3)):=(ai.refl _ _).alloc _;obtain⟨v',w2,hr,r1,r2,r3⟩:=iL (bd.aM ca (by simp)) (gP w hx) (Qj hB ca.size) (by simp;omega) 25;obtain⟨nt,nr,ev'⟩:=r1.shape;rw[show (l++[x]).length=l.length+1 by simp] at ev';subst ev';have bG:ai (aL (.slice va l.length vc)) w w2:=(ca.mono (by simp)).trans r2 (fun j hj=>Qb hj);have hfg:g ∉ aL (.slice va l.length vc):=fun em=>by
  obtain⟨Eu,r,hh⟩:=bZ bd g em;rcases h.out.2 with ⟨q,_⟩ | ⟨g',c',cur,q,_,hg,_⟩
  ·cases q
  simp only[Qe.injEq,QA.injEq,Addr.mk.injEq] at q;obtain⟨⟨rfl,-⟩,-⟩:=q;rw[hg] at hh;simp at hh;exact he hh.2.1
 have qy:=bG.cell aO hfg;have tg:=h.put (v:=.slice nt (l.length+1) nr) (m:=l++[x]) he hq hc r1 (by rw[ev];exact bG) (fun b hb=>by
  rw[ev];rcases r3 b hb with t | t
  ·exact Qb t
  exact Ql (Qj ca.size t))
 have hgh:∃ cur,w.heap[g]?=some (.cells cur e (0,0)):=by
  rcases h.out.2 with ⟨q,_⟩ | ⟨g',c',cur,q,hb,hg,_⟩
  ·cases q
  simp only[Qe.injEq,QA.injEq,Addr.mk.injEq] at q;obtain⟨⟨rfl,-⟩,-⟩:=q;exact⟨_,hg⟩
 obtain⟨cur,hg⟩:=hgh;have Cp:=bG.heap hg hfg;have bw:ai [g] w2 (w2.setCell ⟨g,q,none⟩ (.slice nt (l.length+1) nr)):=(ai.refl _ _).setCell (Qb (by simp)) _;exact⟨va,vc,nt,nr,w2,aO,hr,qy,by simp[World.frozen?,Cp],tg,fun b hb=>(r3 b hb).imp id fun t=>Qj ca.size t,ev,(bG.mono (fun j hj=>Qb (by simp[hj]))).trans bw (fun j hj=>Qb (by simp at hj;simp[hj])),bG,hfg,fun b cs t r hb ht hm=>by
  obtain⟨Eu,r',hh⟩:=bZ bd b hm;rw[hb] at hh;simp at hh;exact ht hh.2.1⟩
theorem ae1 {w w':World} {b:Nat} {o:Obj} (hc:ai [] w w') (h:w.heap[b]?=some o):w'.heap[b]?=some o:=hc.heap h (by simp)
theorem sP {w:World} {B fb n:Nat} (h:w.ownsRow B 25 1 (.slice (some ⟨fb,0,none⟩) n n) n (madeCells (Qe none 0 0).cells (n*1)).toList):bF w B 25 1 (.slice (some ⟨fb,0,none⟩) n n) n (Qq n (.slice none 0 0)) (Qq n (.row [])):=by
 have e1:(madeCells (Qe none 0 0).cells (n*1)).toList=Qq n (.slice none 0 0):=by
  show (madeCells #[Qe none 0 0] (n*1)).toList=_;rw[Nat.mul_one,toList_madeCells_one]
 rw[e1] at h;have hv:∀ k,k<n->(Qq n (Qe none 0 0)).getD k undef=.slice none 0 0:=fun k hk=>by simp[QD,hk]
 refine⟨h,by simp,by simp,fun k c hk=>?_,fun k l hk _ _=>Qb ?_⟩
 ·obtain⟨h1,h2⟩:=List.getElem?_eq_some_iff.1 hk
  rw[Qy] at h1;rw[List.getElem_replicate] at h2;rw[hv k h1,<-h2];exact yC w B
 rw[Qy] at hk;rw[hv k hk];rfl
theorem AI {g:Plain.Gr} {p:Plain.Pt} {N k a:Nat} {d:Int} (hk:k<p.ag.length) (hd:p.ag.getD k 0=d) (ha:g.tail d=a) :
  ((Qi N).map fun v:Nat=>Cell.row (Plain.bX g p v k)).set a (.row (Plain.bX g p a k++[d]))=(Qi N).map fun v:Nat=>Cell.row (Plain.bX g p v (k+1)):=by
 refine QU (by simp) fun i h1 h2=>?_;rw[List.getElem_set];simp only[List.getElem_map,List.getElem_range];rw[Plain.sm hk,hd,ha];by_cases e:a=i
 ·subst e
  rw[if_pos rfl,if_pos rfl]
 rw[if_neg e,if_neg (by omega)]
theorem Ja {a:Nat} {xs:List Value} {v v':Value} {w:World} {B:Nat} (LI:∀ k b,k<xs.length->(xs.getD k undef).ownBlock=some b->B<=b) (ha:a<xs.length) (hv:xs.getD a undef=v) (hf:∀ b∈aL v',b∈aL v\/w.heap.size<=b) (h1:aL v'=v'.ownBlock.toList) (h2:aL v=v.ownBlock.toList) (hB:B<=w.heap.size) :
  ∀ k b,k<(xs.set a v').length->((xs.set a v').getD k undef).ownBlock=some b->B<=b:=fun k b hk hb=>by
 rw[List.length_set] at hk;rw[dW _ _ _ _ _ ha] at hb;by_cases e:k=a
 ·rw[if_pos e] at hb
  rcases hf b (by rw[h1,hb];simp) with q | q
  ·refine LI a b ha ?_
   rw[hv];rw[h2] at q;simpa using q
  omega
 rw[if_neg e] at hb;exact LI k b hk hb
theorem I0 (n:Nat):((Qi n).map fun i:Nat=>(fun _:Int=>(0:Int)) i)=Qq n 0:=by
 rw[QZ];simp
theorem wZ (f:Int->Bool):∀ D:List Int,(D.filter f).length+(D.filter fun d=>!f d).length=D.length
 | []=>rfl
 | d :: D=>by
  have ih:=wZ f D;cases h:f d <;> simp[h] <;> omega
theorem fY {l:List Int} {n:Int} (h:Plain.fI l n=true):l.length<=n.toNat:=by
 have h1:=Plain.bQ (l:=l) (m:=(Qi n.toNat).map fun i:Nat=>(i:Int)) (Plain.jI h) fun x hx=>by
  obtain⟨i,hi,rfl⟩:=Plain.bO hx;have:=Plain.ct h hi;exact Qm.2 ⟨(l.getD i 0).toNat,Qt.2 (by omega),by omega⟩
 simpa using h1
theorem Ae {g:Plain.Gr} {p:Plain.Pt}:∀ {l:List Int} {D:List Int},l.Nodup->(l.map fun u=>(D.filter fun d=>decide (g.tail d=u)).length+1).sum<=D.length+l.length
 | [],D,_=>by simp
 | u :: l,D,hn=>by
  rw[List.nodup_cons] at hn;have h1:(l.map fun v=>(D.filter fun d=>decide (g.tail d=v)).length+1)=l.map fun v=>((D.filter fun d=>!decide (g.tail d=u)).filter fun d=>decide (g.tail d=v)).length+1:=by
   refine List.map_congr_left fun v hv=>?_
   congr 2
   rw[List.filter_filter];refine List.filter_congr fun d _=>?_;by_cases e:g.tail d=v
   ·have:g.tail d≠u:=fun q=>hn.1 (by rw[<-q,e];exact hv)
    have h2:v≠u:=fun q=>this (e.trans q);simp[e,h2]
   simp[e]
  have h2:=Ae (g:=g) (p:=p) (l:=l) (D:=D.filter fun d=>!decide (g.tail d=u)) hn.2;have h3:(D.filter fun d=>decide (g.tail d=u)).length+(D.filter fun d=>!decide (g.tail d=u)).length=D.length:=wZ _ D;rw[QQ,List.sum_cons,h1,QJ];omega
theorem KF {g:Plain.Gr} {p:Plain.Pt} (h:p.err g=0):Plain.yF g p Plain.dG.zero<=10000:=by
 have hk:=Plain.Pt.aF h;obtain⟨jZ,pF,hz3,-⟩:=Plain.Pt.aP h;obtain⟨hz4,hz5,hz6,-⟩:=Plain.Gr.aP jZ;unfold Plain.yF Plain.a8;have e:(p.v.filter fun u=>decide (Plain.dG.zero.met u=0))=p.v:=List.filter_eq_self.2 fun _ _=>rfl;rw[e];have h1:=Ae (g:=g) (p:=p) (D:=p.ag) hk.vn;have h2:=Plain.cw p;have h3:=fY pF;have h4:=fY hz3;omega
set_option maxRecDepth 100000 in
set_option maxHeartbeats 4000000 in
theorem KP (vg vp:Value) (g:Plain.Gr) (p:Plain.Pt) (w:World) (N:Nat) (hN:g.n=N) (gJ:p.err g=0) (hg:dU w vg g) (hp:gD w vp p) :
  Calls Tryz.prog 73 #[vg,vp] w fun e w'=>∃ k ev m F,e=.returned (.pointer (some ⟨k.pb,0,none⟩))/\k.n=N/\dk k g w' (Plain.findAll g p) ev m F/\m+(Plain.findAll g p).ed.length<=100000/\k.Ok/\w.heap.size<=k.w0.heap.size/\(∀ j∈k.own,w.heap.size<=j)/\ai [] w w':=by
 have sB:=lh hN;have jP:=Plain.Pt.aF gJ;obtain⟨jZ,pF,hz3,-⟩:=Plain.Pt.aP gJ;obtain⟨hz4,hz5,hz6,-⟩:=Plain.Gr.aP jZ;have hN1:N<=1024:=by omega
 have Yn:g.e.length<=1024:=by omega
 have hhe:∀ e∈p.e,e<g.e.length:=fun e he=>(Plain.Pt.JB gJ he).2;have Jh:=lh gJ;have acG:=lh (show Plain.yF g p Plain.dG.zero<=10000 from KF gJ);clear hN jZ pF hz3 hz4 hz5 hz6 gJ;have HG:=lh hg;have HP:=lh hp;obtain⟨eo,cap,rfl,hn,hm,dS,aO⟩:=hg;obtain⟨v1,v2,rfl,hv,he⟩:=hp;obtain⟨ao,ac,rfl,has,KZ,cD⟩:=hv;obtain⟨bo,bc,rfl,la,vD,bT⟩:=he;have IB:=lh cD;have Ci:=lh bT;have VA:=lh has;have Sv:=lh la;obtain⟨-,-,cG⟩:=dq w #[.int .i64 g.n,.slice eo g.e.length cap] #[.slice ao p.v.length ac,.slice bo p.e.length bc] 24 27;have b8:=lh cG;have eE:=lh (fun w2 h=>im w (g:=g) (p:=p) (eo:=eo) (ao:=ao) (bo:=bo) (cap:=cap) (ac:=ac) (bc:=bc) (w2:=w2) h);clear aO cD bT dS has la hn cG;obtain⟨x0,x1,y0,y1,di⟩:=eE.out _ (ai.refl _ _)
 go_enter Tryz.func73,Tryz.ntmps73
 go_wp2_with fail
 obtain⟨w1,sA⟩:∃ w1,((w.alloc (.cells #[.int .i64 g.n,.slice eo g.e.length cap] 24)).alloc (.cells #[.slice ao p.v.length ac,.slice bo p.e.length bc] 27))=w1:=⟨_,rfl⟩;rw[sA] at b8 eE ⊢;clear sA x0 x1 y0 y1 di;obtain⟨x0,x1,y0,y1,di⟩:=eE.out w1 (ai.refl _ _);refine uH (w0:=w1) [[],[],[1],[2],[],[4],[5],[],[7],[8],[],[0,3,6,9,10],[11]] [12] [6,9] (by kernel_rfl) (by kernel_rfl) (by kernel_rfl) (ai.refl [] w1).drew ?_
 (intro fr sF;simp only[jL,Qn,Qu,QE,QF,Nat.reduceAdd] at sF;obtain rfl:=funext (fun aR=>(sF aR).symm);clear sF;simp only[List.dropLast,List.zip_cons_cons,List.zip_nil_right])
 refine ia (c:=.agg #[.int .i64 g.n,.slice eo g.e.length cap]) rfl (by rfl) (fun aR w' hG hF hA=>⟨by rfl,by have q0:=hG.c x0;have q1:=hG.c x1;go_simp⟩) ?_;refine ia (c:=.pointer (some ⟨w.heap.size,0,none⟩)) rfl (by rfl) (fun aR w' hG hF hA=>⟨by rfl,by go_simp⟩) ?_;refine ia (c:=.int .i64 g.n) rfl (by rfl) (fun aR w' hG hF hA=>⟨by rfl,by simp only[gz,Qg,Qf,Qc,Qd,and_true] at hF;have q0:=hG.c x0;simp only[hF];go_simp⟩) ?_;refine rU (fun v w=>∃ b,v=.slice (some ⟨b,0,none⟩) N N/\w.ownsRow w1.heap.size 25 1 (.slice (some ⟨b,0,none⟩) N N) N (madeCells (Qe none 0 0).cells (N*1)).toList) rfl (by rfl) (fun u w w' hc ⟨b,e,h⟩=>⟨b,e,bE h hc (by simp)⟩) (fun aR w' hG hF hA=>⟨by rfl,fun K hK=>by
  simp only[gz,Qg,Qf,Qc,Qd,and_true] at hF;refine qR qS _ _ rfl (B:=w1.heap.size) (n:=N) (by show aR 2=_;rw[hF,sB.out]) (by show aR 2=_;rw[hF,sB.out]) hG.size (by omega) fun w2 h2 bG=>?_;exact hK.out _ _ ⟨_,rfl,h2⟩ bG⟩) ?_
 refine ia (c:=.pointer (some ⟨w.heap.size,0,none⟩)) rfl (by rfl) (fun aR w' hG hF hA=>⟨by rfl,by go_simp⟩) ?_;refine ia (c:=.int .i64 g.n) rfl (by rfl) (fun aR w' hG hF hA=>⟨by rfl,by simp only[gz,Qg,Qf,Qc,Qd,and_true] at hF;have q0:=hG.c x0;simp only[hF];go_simp⟩) ?_;refine zR (fun v w=>∃ b,v=.slice (some ⟨b,0,none⟩) N N/\w1.heap.size<=b/\jT w b N fun _=>0) rfl (fun u w w' hc ⟨b,e,hb,h⟩=>⟨b,e,hb,h.aM hc (by simp)⟩) (fun aR w' hG hF hA=>⟨by rfl,fun K hK=>by
  simp only[gz,Qg,Qf,Qc,Qd,and_true] at hF;refine qR cJ _ _ rfl (B:=0) (n:=N) (by show aR 5=_;rw[hF,sB.out]) (by show aR 5=_;rw[hF,sB.out]) (QO _) (by omega) fun w2 h2 bG=>?_;exact hK.out _ _ ⟨_,rfl,hG.size,by unfold jT;rw[I0];exact rN h2 (by omega)⟩ bG (fun b hb=>by
   have e:w'.heap.size=b:=by simpa[Qx] using hb
   have:=q7 h2 (b:=b) (by simp[Qx,e]);omega)⟩) ?_
 refine ia (c:=.pointer (some ⟨w.heap.size,0,none⟩)) rfl (by rfl) (fun aR w' hG hF hA=>⟨by rfl,by go_simp⟩) ?_;refine ia (c:=.int .i64 g.n) rfl (by rfl) (fun aR w' hG hF hA=>⟨by rfl,by simp only[gz,Qg,Qf,Qc,Qd,and_true] at hF;have q0:=hG.c x0;simp only[hF];go_simp⟩) ?_;refine zR (fun v w=>∃ b,v=.slice (some ⟨b,0,none⟩) N N/\w1.heap.size<=b/\jT w b N fun _=>0) rfl (fun u w w' hc ⟨b,e,hb,h⟩=>⟨b,e,hb,h.aM hc (by simp)⟩) (fun aR w' hG hF hA=>⟨by rfl,fun K hK=>by
  simp only[gz,Qg,Qf,Qc,Qd,and_true] at hF;refine qR cJ _ _ rfl (B:=0) (n:=N) (by show aR 8=_;rw[hF,sB.out]) (by show aR 8=_;rw[hF,sB.out]) (QO _) (by omega) fun w2 h2 bG=>?_;exact hK.out _ _ ⟨_,rfl,hG.size,by unfold jT;rw[I0];exact rN h2 (by omega)⟩ bG (fun b hb=>by
   have e:w'.heap.size=b:=by simpa[Qx] using hb
   have:=q7 h2 (b:=b) (by simp[Qx,e]);omega)⟩) ?_
 refine rU (fun v w=>∃ b,v=.map (some b)/\w1.heap.size<=b/\jq w b 0 fun _=>none) rfl (by rfl) (fun u w w' hc ⟨b,e,hb,h⟩=>⟨b,e,hb,h.aM hc (by simp)⟩) (fun aR w' hG hF hA=>⟨by rfl,fun K hK=>by
  have nq:=@run_makeMap Tryz.prog;go_simp;exact hK.out _ _ ⟨_,rfl,hG.size,jq.made w'⟩ ((ai.refl _ _).alloc _)⟩) ?_
 refine rU (fun v w=>∃ db mb lb mp,v=.agg #[.int .i64 g.n,.slice eo g.e.length cap,.slice (some ⟨db,0,none⟩) N N,.slice (some ⟨mb,0,none⟩) N N,.slice (some ⟨lb,0,none⟩) N N,.int .i64 0,.slice none 0 0,.map (some mp)] /\
   w.ownsRow w1.heap.size 25 1 (.slice (some ⟨db,0,none⟩) N N) N (madeCells (Qe none 0 0).cells (N*1)).toList/\(w1.heap.size<=mb/\jT w mb N fun _=>0)/\(w1.heap.size<=lb/\jT w lb N fun _=>0)/\(w1.heap.size<=mp/\jq w mp 0 fun _=>none)/\mb≠lb) rfl (by rfl)
  (fun u w w' hc ⟨db,mb,lb,mp,e,h1,h2,h3,h4,h5⟩=>⟨db,mb,lb,mp,e,bE h1 hc (by simp),⟨h2.1,h2.2.aM hc (by simp)⟩,⟨h3.1,h3.2.aM hc (by simp)⟩,⟨h4.1,h4.2.aM hc (by simp)⟩,h5⟩) (fun aR w' hG hF hA=>⟨by rfl,fun K hK=>by
  simp only[gz,Qg,Qf,Qc,Qd,and_true] at hF;obtain⟨e0,⟨db,e3,h3⟩,⟨mb,e6,h6⟩,⟨lb,e9,h9⟩,⟨mp,e10,h10⟩⟩:=hF;have bh:mb≠lb:=fun q=>hA 6 (by simp) 9 (by simp) (by simp) (by simp) (by simp) mb (by rw[e6];rfl) (by rw[e9,q];rfl);simp only[e0,e3,e6,e9,e10] at hK ⊢;go_simp;exact hK.out _ _ ⟨db,mb,lb,mp,rfl,h3,h6,h9,h10,bh⟩ (ai.refl _ _)⟩) ?_
 refine rU (fun v w=>∃ pb db mb lb mp,v=.pointer (some ⟨pb,0,none⟩)/\w1.heap.size<=pb/\w.heap[pb]?=some (.cells #[.int .i64 g.n,.slice eo g.e.length cap,.slice (some ⟨db,0,none⟩) N N,.slice (some ⟨mb,0,none⟩) N N,.slice (some ⟨lb,0,none⟩) N N,.int .i64 0,.slice none 0 0,.map (some mp)] 103 (0,0)) /\
   w.ownsRow w1.heap.size 25 1 (.slice (some ⟨db,0,none⟩) N N) N (madeCells (Qe none 0 0).cells (N*1)).toList/\(w1.heap.size<=mb/\jT w mb N fun _=>0)/\(w1.heap.size<=lb/\jT w lb N fun _=>0)/\(w1.heap.size<=mp/\jq w mp 0 fun _=>none)/\mb≠lb) rfl (by rfl)
  (fun u w w' hc ⟨pb,db,mb,lb,mp,e,hb,hr,h1,h2,h3,h4,h5⟩=>⟨pb,db,mb,lb,mp,e,hb,ae1 hc hr,bE h1 hc (by simp),⟨h2.1,h2.2.aM hc (by simp)⟩,⟨h3.1,h3.2.aM hc (by simp)⟩,⟨h4.1,h4.2.aM hc (by simp)⟩,h5⟩) (fun aR w' hG hF hA=>⟨by rfl,fun K hK=>by
  simp only[gz,Qg,Qf,Qc,Qd,and_true] at hF;obtain⟨db,mb,lb,mp,e,h1,h2,h3,h4,h5⟩:=hF;simp only[e] at hK ⊢;go_simp;have hc:=(ai.refl [] w').alloc (.cells #[.int .i64 g.n,.slice eo g.e.length cap,.slice (some ⟨db,0,none⟩) N N,.slice (some ⟨mb,0,none⟩) N N,.slice (some ⟨lb,0,none⟩) N N,.int .i64 0,.slice none 0 0,.map (some mp)] 103);exact hK.out _ _ ⟨_,db,mb,lb,mp,rfl,hG.size,Jt _ _,bE h1 hc (by simp),⟨h2.1,h2.2.aM hc (by simp)⟩,⟨h3.1,h3.2.aM hc (by simp)⟩,⟨h4.1,h4.2.aM hc (by simp)⟩,h5⟩ hc⟩) ?_
 refine GV rfl (fun aR w2 hG hF hA=>⟨by rfl,fun K hK=>?_⟩);simp only[gz,Qg,Qf,Qc,Qd,and_true] at hF;obtain⟨pb,db,mb,lb,mp,e,pa,bd,mm,⟨Jy,vh⟩,⟨J8,fD⟩,⟨FA,qu⟩,ql⟩:=hF;simp only[e] at hK ⊢;go_simp;refine hK.out _ _ ?_;clear hK K;have bU:=lh bd;have HDB:=lh mm;have afP:=lh vh;have wL:=lh fD;have TZ:=lh qu;have xt:=lh ql;have FJ:=lh hG;have acK:=lh (show w.heap.size+2<=db from Qj di (mm.lt db rfl).1);obtain⟨z0,z1,y0,y1,adN⟩:=eE.out w2 hG;clear bd mm vh fD qu ql e hA hG x0 x1 di;generalize aR 0=u0;generalize aR 1=u1;generalize aR 2=u2;generalize aR 3=u3;generalize aR 4=u4;generalize aR 5=u5;generalize aR 6=u6;generalize aR 7=u7;generalize aR 8=u8;generalize aR 9=u9;generalize aR 10=u10;generalize aR 11=u11
 go_wp2_with fail
 have HZ0:=lh z0;have Zc:=lh z1;have HY0:=lh y0;have HY1:=lh y1;have zi:=lh adN;clear z0 z1 y0 y1 adN
 go_loopw [7,8,9,28] (fun _ _ _ iv wr=>∃ i:Nat,i<=p.e.length/\iv=.int .i64 i/\∃ xs,bF wr w1.heap.size 25 1 (.slice (some ⟨db,0,none⟩) N N) N xs ((Qi N).map fun v:Nat=>Cell.row (Plain.bX g p v (2*i)))/\(∀ k b,k<xs.length->(xs.getD k undef).ownBlock=some b->w2.heap.size<=b)/\ai [db] w2 wr) (fun _ _ _ iv _=>((p.e.length:Int) - intOf iv).toNat)
 case atStart =>
  refine⟨0,QO _,rfl,Qq N (.slice none 0 0),?_,fun k b hk hb=>?_,ai.refl _ _⟩
  ·have h1:=sP HDB.out
   rw[show ((Qi N).map fun v:Nat=>Cell.row (Plain.bX g p v (2*0)))=Qq N (.row []) by
    rw[Nat.mul_zero];simp only[Plain.ri];rw[QZ];simp]
   exact h1
  simp only[Qy] at hk;simp[QD,hk,Qx] at hb
 case round =>
  obtain⟨i,hi,rfl,vs,kC,LI,FH⟩:=hrel;have uN:=lh kC;have HLO:=lh LI;have kR:=lh FH;clear kC LI;have hw:∀ j,j<=w.heap.size+1->j ∉ [db]:=fun j hj q=>by
   have:=acK.out;rw[Qa] at q;omega
  have y0r:=kR.out.cell HY0.out (hw _ (Q6 _));have z1r:=kR.out.cell Zc.out (hw _ (Nat.le_succ _));by_cases h0:i=p.e.length
  ·subst h0
   have b0:decide ((p.e.length:Int)<(p.e.length:Int))=false:=decide_eq_false (by omega);have hpn:(w2.heap[pb]?=some (.cells #[.int .i64 g.n,.slice eo g.e.length cap,.slice (some ⟨db,0,none⟩) N N,.slice (some ⟨mb,0,none⟩) N N,.slice (some ⟨lb,0,none⟩) N N,.int .i64 0,.slice none 0 0,.map (some mp)] 103 (0,0))):=bU.out;have Hv:∃ cs,w2.heap[db]?=some (.cells cs 25 (0,0)):=by
    rcases HDB.out.2 with ⟨q,_⟩ | ⟨g',c',cur,q,_,UF,_⟩
    ·cases q
    simp only[Qe.injEq,QA.injEq,Addr.mk.injEq] at q;obtain⟨⟨rfl,-⟩,-⟩:=q;exact⟨_,UF⟩
   obtain⟨dcs,Hv⟩:=Hv;obtain⟨mcs,hmk⟩:=afP.out.kind;obtain⟨lcs,oW⟩:=wL.out.kind;have npd:pb≠db:=fun q=>by rw[q,Hv] at hpn;simp at hpn
   have nmd:mb≠db:=fun q=>by rw[q,Hv] at hmk;simp at hmk
   have nld:lb≠db:=fun q=>by rw[q,Hv] at oW;simp at oW
   have nqd:mp≠db:=fun q=>TZ.out.ne Hv q.symm;have hW0:ai [] w wr:=(b8.out.t FJ.out).trans kR.out (fun j hj=>Ql (by rw[Qa] at hj;have:=acK.out;omega));have TA:=lh (show (FK.mk wr pb mb lb mp N (.slice eo g.e.length cap) (.slice (some ⟨db,0,none⟩) N N)).Ok from⟨fun j hj=>by
    have di:=kR.out.size;have e1:=lt_of_block hpn;have e2:=lt_of_block hmk;have e3:=lt_of_block oW;have e4:=TZ.out.lt;simp only[FK.own,Qk,QK,or_false] at hj;rcases hj with rfl | rfl | rfl | rfl
    ·exact Qw e1 di
    ·exact Qw e2 di
    ·exact Qw e3 di
    exact Qw e4 di,xt.out⟩)
   have gh:=lh (show ∀ j∈[pb,mb,lb,mp],w1.heap.size<=j/\j<w2.heap.size from fun j hj=>by
    have e1:=lt_of_block hpn;have e2:=lt_of_block hmk;have e3:=lt_of_block oW;have e4:=TZ.out.lt;simp only[Qk,QK,or_false] at hj;rcases hj with rfl | rfl | rfl | rfl
    ·exact⟨pa,e1⟩
    ·exact⟨Jy,e2⟩
    ·exact⟨J8,e3⟩
    exact⟨FA,e4⟩)
   have Nt:=lh (show (FK.mk wr pb mb lb mp N (.slice eo g.e.length cap) (.slice (some ⟨db,0,none⟩) N N)).Has g p from by
    refine⟨sB.out,by show N<=100000;omega,by omega,hhe,HG.out.fresh hW0,fun zt b n c eb q=>?_,db,N,fun v=>vs.getD v undef,rfl,fun q=>?_,fun v (hv:v<N)=>⟨uN.out.cell (by rw[uN.out.cells];omega),?_,fun b n c e q=>?_⟩⟩
    ·obtain⟨eo3,acL,e3,-,-,-,ma⟩:=HG.out
     obtain⟨bb,rh,e4,Cd,-⟩:=ma 0 zt;simp only[Value.agg.injEq,Array.mk.injEq,List.cons.injEq,true_and,and_true] at e3;rw[e3] at eb;rw[e4] at eb;simp only[Qe.injEq,QA.injEq] at eb;have aU:=Qr w _ Cd;have:=(gh.out _ q).1;have h3:=b8.out.size;rw[<-eb.1] at this;have:w1.heap.size<=bb:=this;have:bb<w.heap.size:=aU;omega
    ·simp only[FK.own,Qk,QK,or_false] at q
     rcases q with q | q | q | q
     ·exact npd q.symm
     ·exact nmd q.symm
     ·exact nld q.symm
     exact nqd q.symm
    ·have hr:=uN.out.row (k:=v) (l:=Plain.a8 g p v) (by
      rw[QH,QB hv];simp only[Option.map_some];rw[<-Plain.ue,Plain.cw])
     exact hr.ints
    have h1:=HLO.out v b.block (by rw[uN.out.cells];omega) (by
     show (vs.getD v undef).ownBlock=_;have e':vs.getD v undef=.slice (some b) n c:=e;rw[e'];rfl)
    have h2:=(gh.out _ q).2;omega)
   have fs:∀ j,j≠db->j ∉ [db]:=fun j h q=>h (Qa.1 q);have SI:=lh (show dk (FK.mk wr pb mb lb mp N (.slice eo g.e.length cap) (.slice (some ⟨db,0,none⟩) N N)) g wr Plain.dG.zero (.slice none 0 0) 0 (fun _=>none) from
    ⟨kR.out.heap hpn (fs _ npd),afP.out.aM kR.out (fs _ nmd),wL.out.aM kR.out (fs _ nld),yC _ _,TZ.out.aM kR.out (fs _ nqd),⟨by simp[Plain.dG.zero],by simp⟩,ai.refl _ _⟩)
   have WL:=lh hW0;have Ux:=lh (show w2.heap.size<=wr.heap.size from kR.out.size);have HP0:=lh jP;obtain⟨k,hk⟩:∃ k,FK.mk wr pb mb lb mp N (.slice eo g.e.length cap) (.slice (some ⟨db,0,none⟩) N N)=k:=⟨_,rfl⟩;have hkp:k.pb=pb:=by rw[<-hk]
   have Va:k.n=N:=by rw[<-hk]
   have hkm:k.mb=mb:=by rw[<-hk]
   have hkw:k.w0=wr:=by rw[<-hk]
   have Kf:k.own=[pb,mb,lb,mp]:=by rw[<-hk];rfl
   rw[hk] at TA Nt SI;have z0r:=kR.out.cell HY0.out (hw _ (Q6 _));have adz:=lh (show ∀ wx,ai k.own wr wx->wx.cell? ⟨w.heap.size+1,0,none⟩=some (.slice ao p.v.length ac) from fun wx hx=>hx.cell z0r fun q=>by
    rw[Kf] at q;have:=(gh.out _ q).1;have h3:=(eE.out w1 (ai.refl _ _)).2.2.2.2;have:w1.heap.size<=w.heap.size+1:=this;omega)
   have Jf:=lh (show ∀ wx,ai k.own wr wx->∀ i,i<p.v.length->∃ ab xQ,ao=some ⟨ab,xQ,none⟩/\wx.cell? ⟨ab,xQ+i,none⟩=some (.int .i64 (p.v.getD i 0)) from fun wx hx i hi=>by
    obtain⟨ab,xQ,e,Sp⟩:=IB.out (fun q=>by rw[q] at hi;simp at hi);have h1:=Sp i hi;refine⟨ab,xQ,e,hx.cell (hW0.c h1) fun q=>?_⟩;rw[Kf] at q;have h2:=(gh.out _ q).1;have h3:=Qr w _ h1;have h4:=b8.out.size;have:ab<w.heap.size:=h3;have:w1.heap.size<=ab:=h2;omega)
   have z0q:=adz.out wr (ai.refl _ _);have HKP:=lh hkp;have HKN:=lh Va;have HKM:=lh hkm;have HKW:=lh hkw;have HKO:=lh Kf;clear hi FH hpn Hv hmk oW npd nmd nld nqd fs hW0 hk hkp Va hkm hkw Kf z0r
   go_wp2_with fail
   clear z0q;rename World=>wi
   go_loopw [11,83] (fun _ iv wr=>∃ i:Nat,i<=p.v.length/\iv=.int .i64 i/\∃ t,Hid (t=Plain.kp g p p.v.length (p.v.take i) Plain.dG.zero)/\Hid (Plain.Is g p t)/\Fin k g p wr t 0) (fun _ iv _=>((p.v.length:Int) - intOf iv).toNat)
   case atStart=>exact⟨0,QO _,rfl,_,lh rfl,lh Plain.Is.start,_,_,_,SI.out,by have:=acG.out;show 0+0+Plain.yF g p Plain.dG.zero+0<=100000;omega,by have:=acG.out;show (0:Int)+Plain.yF g p Plain.dG.zero<=100000;omega⟩
   case round =>
    obtain⟨i,hi,rfl,t,ht,htp,ev,m,F,hf,mh,jS⟩:=hrel;have LF:=lh hf;have Zl:=lh (show ai k.own wi wr by have:=hf.aM;rw[HKW.out] at this;exact this);have Bb:=lh mh;have mD:=lh jS;have z0q:=adz.out wr Zl.out;by_cases h0:i=p.v.length
    ·subst h0
     have b0:decide ((p.v.length:Int)<(p.v.length:Int))=false:=decide_eq_false (by omega);clear hf mh jS hi;go_wp2;go_ret;refine⟨k,ev,m,F,(by rw[HKP.out];rfl),HKN.out,?_,?_,TA.out,?_,fun j hj=>?_,?_⟩
     ·have h1:=LF.out
      rw[ht.out,QV] at h1;exact h1
     ·have h1:=Bb.out
      rw[ht.out,QV] at h1;show m+(Plain.findAll g p).ed.length<=100000;unfold Plain.findAll;omega
     ·rw[HKW.out];exact WL.out.size
     ·rw[HKO.out] at hj
      have h1:=(gh.out j hj).1;have h2:=b8.out.size;omega
     refine WL.out.trans Zl.out fun j hj=>Ql ?_;rw[HKO.out] at hj;have h1:=(gh.out j hj).1;have h2:=b8.out.size;omega
    have xc:i<p.v.length:=by omega
    have lp:(i:Int)<(p.v.length:Int):=by omega
    obtain⟨ab,xQ,rfl,yI⟩:=Jf.out wr Zl.out i xc;have DY:p.v.getD i 0∈p.v:=Plain.aZ xc;have Sr:=HP0.out.vr _ DY;obtain⟨v,hv⟩:∃ v:Nat,p.v.getD i 0=v:=⟨(p.v.getD i 0).toNat,by omega⟩;rw[hv] at yI DY Sr;have zL:v<N:=by have:=Sr.2;rw[sB.out] at this;omega
    have Tu:(v:Int)<(N:Int):=by omega
    have hTK:t.met v=0->_:=fun q=>Plain.Is.step HP0.out htp.out DY q (n:=p.v.length) (Qz _ _);have sE:=lh hTK;have Fs:=lh (show Plain.kp g p p.v.length (p.v.take (i+1)) Plain.dG.zero=if t.met v=0 then Plain.visit g p p.v.length v (-1) t else t by
     rw[List.take_succ_eq_append_getElem xc];unfold Plain.kp;rw[List.foldl_append];have e:p.v[i]=(v:Int):=by rw[<-hv];simp[QD,xc]
     rw[e];have h1:=ht.out;unfold Plain.kp at h1;rw[<-h1];rfl)
    obtain⟨-,-,-,a3,-,-,-,-⟩:=hf.eight;rw[HKP.out,HKM.out,HKN.out] at a3;have cm:=hf.met.cell (v:=v) (by rw[HKN.out];exact zL);rw[HKM.out] at cm;obtain⟨tm,Bp⟩:∃ tm,t.met (v:Int)=tm:=⟨_,rfl⟩;have KK:=lh Bp;rw[Bp] at cm;have HVM:=lh DY;clear hf mh jS hv DY Sr hTK Bp h0;by_cases c0:tm=0
    ·have b1:(tm==0)=true:=by simp[c0]
     have hE:Plain.vm g p t [] v (-1):=⟨htp.out.bV,HVM.out,by rw[KK.out];exact c0,Qb ⟨rfl,rfl⟩,by rw[htp.out.ed];simp,by rw[htp.out.ed];simp⟩;have hV:=wS k g p TA.out Nt.out HP0.out p.v.length t [] v (-1) 0 wr hE (Qz _ _) ⟨ev,m,F,LF.out,Bb.out,mD.out⟩;rw[HKP.out] at hV;have HV:=lh hV;clear hE hV
     go_wp2_with fail
     refine HV.out.mono ?_;rintro _ w3 ⟨rfl,hv3⟩;have HV3:=lh hv3;clear hv3;go_wp2
     go_roundw
     case rel =>
      have h1:=Fs.out;rw[if_pos (by rw[KK.out];exact c0)] at h1;refine⟨i+1,by omega,by go_num,_,lh h1.symm,lh (sE.out (by rw[KK.out];exact c0)).1,HV3.out⟩
     case measure=>simp[intOf];omega
    have b1:(tm==0)=false:=by simp[c0]
    go_wp2
    go_roundw
    case rel =>
     have h1:=Fs.out;rw[if_neg (by rw[KK.out];exact c0),ht.out] at h1;exact⟨i+1,by omega,by go_num,t,lh (by rw[h1];exact ht.out),htp,ev,m,F,LF.out,Bb.out,mD.out⟩
    case measure=>simp[intOf];omega
  have xc:i<p.e.length:=by omega
  have lp:(i:Int)<(p.e.length:Int):=by omega
  obtain⟨eb,atv,rfl,VX⟩:=Ci.out (fun q=>by rw[q] at xc;simp at xc);have Xu:=VX i xc;have nz:=Qr w _ Xu;have afk:=kR.out.cell ((b8.out.t FJ.out).c Xu) (hw _ (QI (QC nz)));have ry:p.e.getD i 0∈p.e:=Plain.aZ xc;obtain⟨en,kQ⟩:∃ en:Nat,p.e.getD i 0=en:=⟨(p.e.getD i 0).toNat,by have:=jP.er _ ry;omega⟩;rw[kQ] at afk ry;have TW:en<g.e.length:=by have:=hhe _ ry;omega
  obtain⟨eo2,qC,eq2,-,-,-,ma⟩:=HG.out;cases eq2;obtain⟨gb,aaa,rfl,ha,hb⟩:=ma en TW;have Mk:=Qr w _ ha;have ha2:=kR.out.cell ((b8.out.t FJ.out).c ha) (hw _ (QI (QC Mk)));have fh:=kR.out.cell ((b8.out.t FJ.out).c hb) (hw _ (QI (QC Mk)));have dm:=jP.ends _ ry;rw[show g.at (en:Int)=g.ends en by simp[Plain.Gr.at]] at dm;obtain⟨a,Jw⟩:∃ a:Nat,(g.ends en).1=a:=⟨(g.ends en).1.toNat,by have:=(jP.vr _ dm.1).1;omega⟩;obtain⟨b,heb⟩:∃ b:Nat,(g.ends en).2=b:=⟨(g.ends en).2.toNat,by have:=(jP.vr _ dm.2).1;omega⟩;have haN:a<N:=by have:=(jP.vr _ dm.1).2;rw[Jw,sB.out] at this;omega
  have hbN:b<N:=by have:=(jP.vr _ dm.2).2;rw[heb,sB.out] at this;omega
  rw[Jw] at ha2;rw[heb] at fh;have HEA:=lh Jw;have HEB:=lh heb;have SF:=lh kQ;clear VX Xu ma ha hb Jw heb kQ dm ry h0;have aue:(en:Int)<(g.e.length:Int):=by omega
  go_wp2_with fail
  have aD:ai [] wr wr.drew:=(ai.refl [] wr).drew;refine au (ai [] wr) [0,1,2,3,4,5,6,7,8,9,10,11,12,13] (Way.line [0,1,2,3,4,5,6,7,8,9,10,11,12,13] .done) (by kernel_rfl) (by kernel_rfl) ?_;simp only[Way.line]
  repeat
   first
    | (refine ar rfl (by rfl) (by rfl) (fun _ _ _ h=>h) aD ?_;simp only[Qn,Z1,Z2,Z3,Z4,Z5,Z6])
    | (refine aq (v:=?_) rfl (by rfl) (by rfl) (fun _ _ _ h=>h) aD (fun w' aK=>?_) ?_;rotate_left;(focus (have fU:=aK.c z1r;have gX:=aK.c ha2;have nP:=aK.c fh;clear aK;go_simp;try with_reducible rfl));simp only[Qn,Z1,Z2,Z3,Z4,Z5,Z6])
    | (refine ak rfl (by rfl) (by rfl) aD ?_;simp only[Qn,Z1,Z2,Z3,Z4,Z5,Z6])
  refine aB ?_;have RF:=lh (uN.out.fresh aD);have Xm:=HLO;have Px:=lh (kR.out.t aD);have hpc:=(cell_of_row w2 pb 2 _ _ _ bU.out).trans (show _=some (Qe (some ⟨db,0,none⟩) N N) from rfl);have FZ:=lh (show ∀ wx,ai [db] w2 wx->wx.cell? ⟨pb,2,none⟩=some (.slice (some ⟨db,0,none⟩) N N) from fun wx hx=>hx.cell hpc fun q=>by
   rw[Qa] at q;have q:pb=db:=q;rcases HDB.out.2 with ⟨q2,_⟩ | ⟨g',c',cur,q2,_,UF,_⟩
   ·cases q2
   simp only[Qe.injEq,QA.injEq,Addr.mk.injEq] at q2;obtain⟨⟨rfl,-⟩,-⟩:=q2;have h1:=bU.out;rw[q,UF] at h1;simp at h1)
  have Su:=lh (show ∀ wx,ai [db] w2 wx->wx.heap[pb]?=some (.cells #[.int .i64 g.n,.slice (some ⟨gb,aaa,none⟩) g.e.length cap,.slice (some ⟨db,0,none⟩) N N,.slice (some ⟨mb,0,none⟩) N N,.slice (some ⟨lb,0,none⟩) N N,.int .i64 0,.slice none 0 0,.map (some mp)] 103 (0,0)) from fun wx hx=>hx.heap bU.out fun q=>by
   rw[Qa] at q;rcases HDB.out.2 with ⟨q2,_⟩ | ⟨g',c',cur,q2,_,UF,_⟩
   ·cases q2
   simp only[Qe.injEq,QA.injEq,Addr.mk.injEq] at q2;obtain⟨⟨rfl,-⟩,-⟩:=q2;have h1:=bU.out;rw[q,UF] at h1;simp at h1)
  have x9:p.ag.length=2*p.e.length:=Plain.cw p;have Zq:=lh (show p.ag.getD (2*i) 0=2*(en:Int) by have:=Plain.qq xc 0 (by omega);rw[SF.out] at this;simpa using this);have HD1:=lh (show p.ag.getD (2*i+1) 0=2*(en:Int)+1 by have:=Plain.qq xc 1 (by omega);rw[SF.out] at this;simpa using this);have HT0:=lh (show g.tail (2*(en:Int))=a by rw[<-HEA.out];have:=(kj g en).1;simpa using this);have Mc:=lh (show g.tail (2*(en:Int)+1)=b by rw[<-HEB.out];have:=(lU g en).1;simpa using this);have mU:=lh (show p.e.length<=1024 by have:=fY (Plain.Pt.aP Jh.out).2.2.1;omega);have FI:=lh x9;clear aD z1r ha2 fh y0r afk FH x9 hpc;generalize wr.drew=wa at *;have ww0:IntKind.i64.wrap (2*(en:Int))=2*(en:Int):=IntWalk.i64_in _ (by omega);have ww1:IntKind.i64.wrap (2*(en:Int)+1)=2*(en:Int)+1:=IntWalk.i64_in _ (by omega);have pc:=FZ.out wa Px.out;have aD:ai [] wa wa.drew:=(ai.refl [] wa).drew;have S9:=RF.out.cells;obtain⟨va,vc,nt,nr,w3,p1,p2,p3,p4,p5,p6,p7,p8,p9,MT,Yo⟩:=oS (q:=a) (x:=2*(en:Int)) (RF.out.fresh aD) (by decide) (Qj (RF.out.out.lt db rfl).1 (Qj (QC (RF.out.out.lt db rfl).2) aD.size)) (by rw[S9];show a<N*1;omega) (show _=some (Cell.row (Plain.bX g p a (2*i))) by rw[QH,QB haN];rfl) (bn.mk (by omega) (by omega)) (by have h1:=Plain.kW g p a (2*i);have h2:=mU.out;omega);have yV:(Plain.bX g p a (2*i)).length<=2*i:=Plain.kW g p a (2*i);obtain⟨ln,Rh⟩:∃ ln,(Plain.bX g p a (2*i)).length=ln:=⟨_,rfl⟩;have vH:=lh p2;have TV:=lh (Ja Xm.out (by rw[S9];show a<N*1;omega) p7 p6 rfl rfl (Qj Px.out.size aD.size));have LC:=lh (show ai [db] w2 _ from (Px.out.t aD).trans p8 (fun j hj=>by
   rcases Qk.1 hj with q | q
   ·exact Qb (by simp[q])
   refine Ql (Xm.out a j (by rw[S9];show a<N*1;omega) ?_);rw[p7];simpa[aL] using q))
  have LX:=lh (show bF _ w1.heap.size 25 1 (.slice (some ⟨db,0,none⟩) N N) N _ ((Qi N).map fun v:Nat=>Cell.row (Plain.bX g p v (2*i+1))) by
   have h1:=AI (g:=g) (p:=p) (N:=N) (k:=2*i) (a:=a) (d:=2*(en:Int)) (by rw[FI.out];omega) Zq.out HT0.out;rw[<-h1];exact p5)
  have OR:wa.heap[pb]?=some (.cells #[.int .i64 g.n,.slice (some ⟨gb,aaa,none⟩) g.e.length cap,.slice (some ⟨db,0,none⟩) N N,.slice (some ⟨mb,0,none⟩) N N,.slice (some ⟨lb,0,none⟩) N N,.int .i64 0,.slice none 0 0,.map (some mp)] 103 (0,0)):=Su.out _ Px.out;have MY:=Yo pb _ _ _ OR (by decide);rw[Rh] at vH TV LC LX p1 p3 p9 MT MY;have Fg:=lh p9;have p1b:wa.cell? ⟨db,a,none⟩=some (.slice va ln vc):=p1;clear p2 p5 p6 p7 p8 p9 Yo OR
  go_wp2_with fail
  have bD:ai (aL (.slice va ln vc)) wa wa.drew:=aD.mono (by simp);refine au (ai (aL (.slice va ln vc)) wa) [0,1,2,3,4,5,6,7,8,9,10,11,12,13] (Way.line [0,1,2,3,4,5,6,7,8,9,10,11,12,13,14,15,16,17] .done) (by kernel_rfl) (by kernel_rfl) ?_;simp only[Way.line]
  repeat
   first
    | (refine ar rfl (by rfl) (by rfl) (fun _ _ _ h=>h) bD ?_;simp only[Qn,Z1,Z2,Z3,Z4,Z5,Z6])
    | (refine aq (v:=?_) rfl (by rfl) (by rfl) (fun _ _ _ h=>h) bD (fun w' aK=>?_) ?_;rotate_left;(focus (have fU:=aK.cell pc (by first | exact MY | exact MT);have gX:=aK.cell p1b (by first | exact MY | exact MT);clear aK;go_simp;try with_reducible rfl));simp only[Qn,Z1,Z2,Z3,Z4,Z5,Z6])
    | (refine ak rfl (by rfl) (by rfl) bD ?_;simp only[Qn,Z1,Z2,Z3,Z4,Z5,Z6])
  refine aC rfl (by rfl) (by rfl) (fun K hK=>?_);go_simp;refine hK.out _ _ (fun _=>bD.alloc _) ?_;clear hK K
  try simp only[Qn,Z1,Z2,Z3,Z4,Z5,Z6]
  refine aC rfl (by rfl) (by rfl) (fun K hK=>?_);simp only[QP,QL,QM];refine oZ (.tmp 55) (.tmp 58) 25 rfl rfl rfl vH.out ?_;refine hK.out _ _ (fun _=>(aD.mono (by simp)).trans Fg.out (fun j hj=>Qb hj)) ?_;clear hK K
  try simp only[Qn,Qu,QE,QF]
  refine aC rfl (by rfl) (by rfl) (fun K hK=>?_);go_simp;refine hK.out _ _ (fun h=>absurd h (Qo.1 (by kernel_rfl))) ?_;clear hK K
  try simp only[Qn,Z1,Z2,Z3,Z4,Z5,Z6]
  refine aC rfl (by rfl) (by rfl) (fun K hK=>?_);go_simp;refine hK.out _ _ (fun h=>absurd h (Qo.1 (by kernel_rfl))) ?_;clear hK K
  try simp only[Qn,Z1,Z2,Z3,Z4,Z5,Z6]
  refine aB ?_;generalize (w3.setCell ⟨db,a,none⟩ (.slice nt (ln+1) nr))=wb at *;clear p1 p1b p3 p4 MT MY bD Fg vH pc aD yV Rh RF Xm Px S9;have pc:=FZ.out wb LC.out;have aD:ai [] wb wb.drew:=(ai.refl [] wb).drew;have TG:=LX.out.cells;obtain⟨va,vc,nt,nr,w3,p1,p2,p3,p4,p5,p6,p7,p8,p9,MT,Yo⟩:=oS (q:=b) (x:=2*(en:Int)+1) (LX.out.fresh aD) (by decide) (Qj (LX.out.out.lt db rfl).1 (Qj (QC (LX.out.out.lt db rfl).2) aD.size)) (by rw[TG];show b<N*1;omega) (show _=some (Cell.row (Plain.bX g p b (2*i+1))) by rw[QH,QB hbN];rfl) (bn.mk (by omega) (by omega)) (by have h1:=Plain.kW g p b (2*i+1);have h2:=mU.out;omega);have yV:(Plain.bX g p b (2*i+1)).length<=2*i+1:=Plain.kW g p b (2*i+1);obtain⟨ln,Rh⟩:∃ ln,(Plain.bX g p b (2*i+1)).length=ln:=⟨_,rfl⟩;have vH:=lh p2;have abI:=lh (Ja TV.out (by rw[TG];show b<N*1;omega) p7 p6 rfl rfl (Qj LC.out.size aD.size));have agk:=lh (show ai [db] w2 _ from (LC.out.t aD).trans p8 (fun j hj=>by
   rcases Qk.1 hj with q | q
   ·exact Qb (by simp[q])
   refine Ql (TV.out b j (by rw[TG];show b<N*1;omega) ?_);rw[p7];simpa[aL] using q))
  have LR:=lh (show bF _ w1.heap.size 25 1 (.slice (some ⟨db,0,none⟩) N N) N _ ((Qi N).map fun v:Nat=>Cell.row (Plain.bX g p v (2*i+1+1))) by
   have h1:=AI (g:=g) (p:=p) (N:=N) (k:=2*i+1) (a:=b) (d:=2*(en:Int)+1) (by rw[FI.out];omega) HD1.out Mc.out;rw[<-h1];exact p5)
  have OR:wb.heap[pb]?=some (.cells #[.int .i64 g.n,.slice (some ⟨gb,aaa,none⟩) g.e.length cap,.slice (some ⟨db,0,none⟩) N N,.slice (some ⟨mb,0,none⟩) N N,.slice (some ⟨lb,0,none⟩) N N,.int .i64 0,.slice none 0 0,.map (some mp)] 103 (0,0)):=Su.out _ LC.out;have MY:=Yo pb _ _ _ OR (by decide);rw[Rh] at vH abI agk LR p1 p3 p9 MT MY;have Fg:=lh p9;have p1b:wb.cell? ⟨db,b,none⟩=some (.slice va ln vc):=p1;clear p2 p5 p6 p7 p8 p9 Yo OR
  go_wp2_with fail
  have bD:ai (aL (.slice va ln vc)) wb wb.drew:=aD.mono (by simp);refine au (ai (aL (.slice va ln vc)) wb) [0,1,2,3,4,5,6,7,8,9,10,11,12,13,14] (Way.line [0,1,2,3,4,5,6,7,8,9,10,11,12,13,14,15,16,17,18] .done) (by kernel_rfl) (by kernel_rfl) ?_;simp only[Way.line]
  repeat
   first
    | (refine ar rfl (by rfl) (by rfl) (fun _ _ _ h=>h) bD ?_;simp only[Qn,Z1,Z2,Z3,Z4,Z5,Z6])
    | (refine aq (v:=?_) rfl (by rfl) (by rfl) (fun _ _ _ h=>h) bD (fun w' aK=>?_) ?_;rotate_left;(focus (have fU:=aK.cell pc (by first | exact MY | exact MT);have gX:=aK.cell p1b (by first | exact MY | exact MT);clear aK;go_simp;try with_reducible rfl));simp only[Qn,Z1,Z2,Z3,Z4,Z5,Z6])
    | (refine ak rfl (by rfl) (by rfl) bD ?_;simp only[Qn,Z1,Z2,Z3,Z4,Z5,Z6])
  refine aC rfl (by rfl) (by rfl) (fun K hK=>?_);go_simp;refine hK.out _ _ (fun _=>bD.alloc _) ?_;clear hK K
  try simp only[Qn,Z1,Z2,Z3,Z4,Z5,Z6]
  refine aC rfl (by rfl) (by rfl) (fun K hK=>?_);simp only[QP,QL,QM];refine oZ (.tmp 72) (.tmp 76) 25 rfl rfl rfl vH.out ?_;refine hK.out _ _ (fun _=>(aD.mono (by simp)).trans Fg.out (fun j hj=>Qb hj)) ?_;clear hK K
  try simp only[Qn,Qu,QE,QF]
  refine aC rfl (by rfl) (by rfl) (fun K hK=>?_);go_simp;refine hK.out _ _ (fun h=>absurd h (Qo.1 (by kernel_rfl))) ?_;clear hK K
  try simp only[Qn,Z1,Z2,Z3,Z4,Z5,Z6]
  refine aC rfl (by rfl) (by rfl) (fun K hK=>?_);go_simp;refine hK.out _ _ (fun h=>absurd h (Qo.1 (by kernel_rfl))) ?_;clear hK K
  try simp only[Qn,Z1,Z2,Z3,Z4,Z5,Z6]
  refine aB ?_;generalize (w3.setCell ⟨db,b,none⟩ (.slice nt (ln+1) nr))=wc at *;clear p1 p1b p3 p4 MT MY bD Fg vH pc aD yV Rh LX TV LC TG;go_wp2
  go_roundw
  case rel=>exact⟨i+1,by omega,by go_num,_,LR.out,abI.out,agk.out⟩
  case measure=>simp[intOf];omega
end Go.Proofs.YtbkjljffnkdcjaaGreat
namespace Go.Proofs.YtbkjljffnkdcjaaGreat.Plain
def kG (on:Int->Bool) (e:Int) (s:St × (Int->Option Int)) (v:Int):St × (Int->Option Int) :=
 if on v then s else match s.2 v with
  | some f=>(s.1.join f e,s.2)
  | none=>(s.1,fun y=>if y=v then some e else s.2 y)
def Bt (g:Gr) (on:Int->Bool) (s:St × (Int->Option Int)) (e:Int):St × (Int->Option Int):=kG on e (kG on e s (g.at e).1) (g.at e).2
def gG (g:Gr) (on:Int->Bool) (E:List Int):St × (Int->Option Int):=E.foldl (Bt g on) (St.new E,fun _=>none)
def cI (g:Gr) (e v:Int):Prop:=(g.at e).1=v\/(g.at e).2=v
def Lk (g:Gr) (on:Int->Bool) (e f:Int):Prop:=∃ v,on v=false/\cI g e v/\cI g f v
structure AG (on:Int->Bool) (E:List Int) (H:Int->Int->Prop) (s:St × (Int->Option Int)):Prop where
 ok:s.1.Ok
 all:s.1.all=(St.new E).all
 src:∀ v f,s.2 v=some f->f∈E/\H f v
 yk:∀ e v,H e v->on v=false->∃ f,s.2 v=some f/\s.1.rel f e
 least:∀ Q:Int->Int->Prop,qw Q->(∀ e f v,H e v->H f v->on v=false->Q e f)->∀ x y,s.1.rel x y->Q x y
theorem J0 {l:List Int} {x:Int} (hx:x∈l):x∈(St.new l).all:=by
 unfold St.new;have h:∀ (l:List Int) (s:St),(x∈l\/x∈s.all)->x∈(l.foldl St.put s).all:=by
  intro l
  induction l with
  | nil=>intro s h;exact h.resolve_left (by simp)
  | cons y l ih =>
   intro s h;refine ih _ ?_;rcases h with h | h
   ·rcases Qk.1 h with rfl | h
    ·exact Ql (s.lk x)
    exact Qb h
   exact Ql (St.ku y h)
 exact h l _ (Qb hx)
theorem jt {l:List Int} (h:l.Nodup):(St.new l).all=l:=by
 unfold St.new;have h2:∀ (l:List Int) (s:St),(s.all++l).Nodup->(l.foldl St.put s).all=s.all++l:=by
  intro l
  induction l with
  | nil=>intro s _;simp
  | cons y l ih =>
   intro s h;have hy:y ∉ s.all:=fun q=>by
    rw[QS] at h;exact h.2.2 y q y (by simp) rfl
   have e:(s.put y).all=s.all++[y]:=by rw[St.eH hy]
   rw[Q0,ih _ (by rw[e];simpa using h),e];simp
 simpa using h2 l ⟨[],[]⟩ (by simpa using h)
theorem UQ {l:List Int} {x y:Int}:(St.new l).rel x y↔x=y:=by
 unfold St.new;have h2:∀ (l:List Int) (s:St),s.Ok->((l.foldl St.put s).rel x y↔s.rel x y):=by
  intro l
  induction l with
  | nil=>intro s _;exact Iff.rfl
  | cons z l ih=>intro s h;rw[Q0,ih _ (h.put z),St.BH h]
 rw[h2 l _ St.Re,St.Td]
theorem AG.start (on:Int->Bool) (E:List Int):AG on E (fun _ _=>False) (St.new E,fun _=>none) :=
 ⟨St.X8 E,rfl,fun v f h=>(by cases h),fun e v h=>h.elim,fun Q hQ _ x y h=>(UQ.1 h) ▸ hQ.refl _⟩
theorem AG.step {on:Int->Bool} {E:List Int} {H:Int->Int->Prop} {s:St × (Int->Option Int)} (h:AG on E H s) {e v:Int} (he:e∈E):AG on E (fun f u=>H f u\/(f=e/\u=v)) (kG on e s v):=by
 unfold kG;by_cases ho:on v=true
 ·rw[if_pos ho]
  refine⟨h.ok,h.all,fun u f q=>⟨(h.src u f q).1,Qb (h.src u f q).2⟩,fun f u q hu=>?_,fun Q hQ hh=>h.least Q hQ fun a b c d f=>hh a b c (Qb d) (Qb f)⟩;rcases q with q | ⟨rfl,rfl⟩
  ·exact h.yk f u q hu
  rw[ho] at hu;cases hu
 rw[if_neg ho];cases hv:s.2 v with
 | some f =>
  have hf:=h.src v f hv;have fin:f∈s.1.all:=by rw[h.all];exact J0 hf.1
  have ein:e∈s.1.all:=by rw[h.all];exact J0 he
  have hj:=(St.US fin ein).1;refine⟨h.ok.join f e,by show (s.1.join f e).all=_;rw[hj];exact h.all,fun u x q=>⟨(h.src u x q).1,Qb (h.src u x q).2⟩,fun x u q hu=>?_,fun Q hQ hh x y hr=>?_⟩
  ·rcases q with q | ⟨rfl,rfl⟩
   ·obtain⟨y,h1,h2⟩:=h.yk x u q hu
    exact⟨y,h1,(St.wX h.ok f e y x).2 (Qb h2)⟩
   exact⟨f,hv,St.Ix h.ok f x⟩
  have hb:∀ a b,s.1.rel a b->Q a b:=h.least Q hQ fun a b c d f=>hh a b c (Qb d) (Qb f);have WU:Q f e:=hh f e v (Qb hf.2) (Ql ⟨rfl,rfl⟩) (Qo.2 ho);rcases (St.wX h.ok f e x y).1 hr with q | ⟨q,r⟩ | ⟨q,r⟩
  ·exact hb _ _ q
  ·exact hQ.trans (hQ.trans (hb _ _ q) WU) (hb _ _ r)
  exact hQ.trans (hQ.trans (hb _ _ q) (hQ.symm WU)) (hb _ _ r)
 | none =>
  refine⟨h.ok,h.all,fun u x q=>?_,fun x u q hu=>?_,fun Q hQ hh=>h.least Q hQ fun a b c d f=>hh a b c (Qb d) (Qb f)⟩
  ·simp only at q
   by_cases r:u=v
   ·rw[if_pos r] at q
    cases q;exact⟨he,Ql ⟨rfl,r⟩⟩
   rw[if_neg r] at q;exact⟨(h.src u x q).1,Qb (h.src u x q).2⟩
  rcases q with q | ⟨rfl,rfl⟩
  ·obtain⟨y,h1,h2⟩:=h.yk x u q hu
   have r:u≠v:=fun r=>by rw[r,hv] at h1;cases h1
   exact⟨y,by simp only[if_neg r];exact h1,h2⟩
  exact⟨x,by simp,s.1.rel_refl x⟩
theorem AG.congr {on:Int->Bool} {E:List Int} {H K:Int->Int->Prop} {s:St × (Int->Option Int)} (h:AG on E H s) (hk:∀ e v,H e v↔K e v):AG on E K s:=by
 obtain rfl:H=K:=funext fun e=>funext fun v=>propext (hk e v);exact h
theorem AG.fold {g:Gr} {on:Int->Bool} {E:List Int}:∀ (L:List Int) {H:Int->Int->Prop} {s:St × (Int->Option Int)},AG on E H s->(∀ e∈L,e∈E)->AG on E (fun e v=>H e v\/(e∈L/\cI g e v)) (L.foldl (Bt g on) s)
 | [],H,s,h,_=>h.congr fun e v=>by simp
 | x :: L,H,s,h,hs=>by
  have h2:=(h.step (v:=(g.at x).1) (hs x (by simp))).step (v:=(g.at x).2) (hs x (by simp));refine (AG.fold L h2 fun e he=>hs e (Qp _ he)).congr fun e v=>?_;unfold cI;rw[Qk];constructor
  ·rintro (((q | ⟨rfl,rfl⟩) | ⟨rfl,rfl⟩) | ⟨q,r⟩)
   ·exact Qb q
   ·exact Ql ⟨Or.inl rfl,Qb rfl⟩
   ·exact Ql ⟨Or.inl rfl,Ql rfl⟩
   exact Ql ⟨Or.inr q,r⟩
  rintro (q | ⟨rfl | q,r⟩)
  ·exact Qb (Qb (Qb q))
  ·rcases r with r | r
   ·exact Qb (Qb (Ql ⟨rfl,r.symm⟩))
   exact Qb (Ql ⟨rfl,r.symm⟩)
  exact Ql ⟨q,r⟩
theorem gu (g:Gr) (on:Int->Bool) (E:List Int):AG on E (fun e v=>e∈E/\cI g e v) (gG g on E) :=
 (AG.fold E (AG.start on E) fun _ h=>h).congr fun e v=>by simp
theorem ja {g:Gr} {on:Int->Bool} {E:List Int} {e f:Int} (he:e∈E) (hf:f∈E) (h:Lk g on e f):(gG g on E).1.rel e f:=by
 obtain⟨v,hv,h1,h2⟩:=h;have hk:=gu g on E;obtain⟨x,e1,r1⟩:=hk.yk e v ⟨he,h1⟩ hv;obtain⟨y,e2,r2⟩:=hk.yk f v ⟨hf,h2⟩ hv;rw[e1] at e2;cases e2;exact St.rel_trans (St.yq r1) r2
theorem ur {g:Gr} {on:Int->Bool} {E:List Int} {Q:Int->Int->Prop} (hQ:qw Q) (h:∀ e∈E,∀ f∈E,Lk g on e f->Q e f) {x y:Int} (hr:(gG g on E).1.rel x y):Q x y :=
 (gu g on E).least Q hQ (fun e f v h1 h2 hv=>h e h1.1 f h2.1 ⟨v,hv,h1.2,h2.2⟩) x y hr
theorem kB {s:St} (hs:s.Ok) {l:List Int} (hl:l∈s.groups):l≠[]/\(∀ x∈l,x∈s.all)/\∀ x∈l,∀ y,y∈l↔s.rel x y:=by
 unfold St.groups St.gr St.cY at hl;obtain⟨h,hh,rfl⟩:=Qm.1 hl;obtain⟨h1,h2⟩:=Qh.1 hh;rw[Qt] at h1;have h2:s.hd h=h:=by simpa using h2
 have dM:∀ x,x∈s.row s.all.length h↔x∈s.all/\s.hd (s.all.idxOf x)=h:=by
  intro x;unfold St.row;rw[Qm];constructor
  ·rintro ⟨i,hi,rfl⟩
   obtain⟨k1,k2⟩:=Qh.1 hi;rw[Qt] at k1;exact⟨iJ k1,by rw[Plain.gT hs.nodup k1];simpa using k2⟩
  rintro ⟨hx,e⟩;have aU:=Qv.2 hx;exact⟨s.all.idxOf x,Qh.2 ⟨List.mem_range.2 aU,by simpa using e⟩,by simp[QD,aU]⟩
 refine⟨List.ne_nil_of_mem ((dM (s.all.getD h 0)).2 ⟨iJ h1,by rw[Plain.gT hs.nodup h1];exact h2⟩),fun x hx=>((dM x).1 hx).1,fun x hx y=>?_⟩;obtain⟨x1,x2⟩:=(dM x).1 hx;rw[dM y];unfold St.rel;rw[St.df];constructor
 ·rintro ⟨y1,y2⟩
  exact Ql ⟨x1,y1,x2.trans y2.symm⟩
 rintro (rfl | ⟨_,y1,e⟩)
 ·exact⟨x1,x2⟩
 exact⟨y1,e.symm.trans x2⟩
theorem E8 {s:St} (hs:s.Ok):s.groups.flatten.Perm s.all:=by
 have bd:∀ h x,x∈s.row s.all.length h↔x∈s.all/\s.hd (s.all.idxOf x)=h:=by
  intro h x;unfold St.row;rw[Qm];constructor
  ·rintro ⟨i,hi,rfl⟩
   obtain⟨k1,k2⟩:=Qh.1 hi;rw[Qt] at k1;exact⟨iJ k1,by rw[Plain.gT hs.nodup k1];simpa using k2⟩
  rintro ⟨hx,e⟩;have aU:=Qv.2 hx;exact⟨s.all.idxOf x,Qh.2 ⟨List.mem_range.2 aU,by simpa using e⟩,by simp[QD,aU]⟩
 have hn:s.groups.flatten.Nodup:=by
  unfold St.groups St.gr;refine List.pairwise_flatten.2 ⟨fun l hl=>?_,?_⟩
  ·obtain⟨h,-,rfl⟩:=Qm.1 hl
   unfold St.row;refine QT.2 ((QG.2 ?_));intro i j hi hj MR e;have ha:=QW hi;have hb:=QW hj;have Bw:=Qt.1 (Qh.1 ha).1;have eG:=Qt.1 (Qh.1 hb).1;have fs:((Qi s.all.length).filter fun i=>s.hd i==h).Nodup:=QX.filter _;have e2:((Qi s.all.length).filter fun i=>s.hd i==h)[i]=((Qi s.all.length).filter fun i=>s.hd i==h)[j]:=by
    rw[<-Plain.gT hs.nodup Bw,<-Plain.gT hs.nodup eG,e]
   exact (QG.1 fs i j hi hj MR) e2
  have hd:(s.cY s.all.length).Nodup:=QX.filter _;refine QT.2 (hd.imp fun {a b} lT x hxa y hxb e=>lT ?_);subst e;exact ((bd _ _).1 hxa).2.symm.trans ((bd _ _).1 hxb).2
 refine (List.perm_ext_iff_of_nodup hn hs.nodup).2 fun x=>?_;rw[List.mem_flatten];constructor
 ·rintro ⟨l,hl,hx⟩
  exact (kB hs hl).2.1 x hx
 intro hx;have aU:=Qv.2 hx;have hg:s.all.idxOf x<s.dp.length:=by rw[<-hs.len];exact aU
 have hle:=hs.le _ hg;refine⟨s.row s.all.length (s.hd (s.all.idxOf x)),Qm.2 ⟨_,Qh.2 ⟨List.mem_range.2 (by omega),by simpa using hs.own _ hg⟩,rfl⟩,?_⟩;exact Qm.2 ⟨s.all.idxOf x,Qh.2 ⟨List.mem_range.2 aU,by simp⟩,by simp[QD,aU]⟩
theorem FR {s:St} {l:List Int} (hl:l∈s.groups):l.Sublist s.all:=by
 unfold St.groups St.gr at hl;obtain⟨h,-,rfl⟩:=Qm.1 hl;unfold St.row;have h1:(((Qi s.all.length).filter fun i=>s.hd i==h).map fun i=>s.all.getD i 0).Sublist ((Qi s.all.length).map fun i=>s.all.getD i 0):=(List.filter_sublist).map _;have h2:((Qi s.all.length).map fun i=>s.all.getD i 0)=s.all:=by
  refine QU (by simp) fun i h1 h2=>?_;simp[QD,h2]
 rwa[h2] at h1
abbrev jg:=Int->Option Int
def eP (g:Gr) (on:Int->Bool):List Int->jg->List Int->Option Int × jg × List Int
 | [],aX,q=>(none,aX,q)
 | d :: ds,aX,q=>match aX (g.head d) with
  | some _=>eP g on ds aX q
  | none=>if on (g.head d) then (some (g.head d),(fun y=>if y=g.head d then some d else aX y),q) else eP g on ds (fun y=>if y=g.head d then some d else aX y) (q++[g.head d])
def iU (g:Gr) (on:Int->Bool) (p:Pt):Nat->jg->List Int->Option Int × jg
 | 0,aX,_=>(none,aX)
 | _+1,aX,[]=>(none,aX)
 | n+1,aX,u :: q=>match eP g on (a8 g p u) aX q with
  | (some z,c,_)=>(some z,c)
  | (none,c,q')=>iU g on p n c q'
def Bi (g:Gr) (aX:jg):Nat->Int->List Int
 | 0,_=>[]
 | n+1,d=>if d<0 then [] else d :: Bi g aX n ((aX (g.tail d)).getD 0)
inductive Ab (g:Gr) (aX:jg) (a:Int):Int->List Int->Prop
 | here:Ab g aX a a []
 | step {u d:Int} {l:List Int}:u≠a->aX u=some d->0<=d->g.head d=u->Ab g aX a (g.tail d) l->u ∉ l.map g.head->Ab g aX a u (l++[d])
structure vU (g:Gr) (on:Int->Bool) (p:Pt) (a:Int) (aX:jg):Prop where
 base:aX a=some (-1)
 trc:∀ u,aX u≠none->∃ l,Ab g aX a u l/\(∀ d∈l,d∈p.ag)/\∀ d∈l.tail,on (g.tail d)=false
theorem Ab.grow {g:Gr} {aX:jg} {a:Int} {u:Int} {l:List Int} (h:Ab g aX a u l) {x d:Int} (hx:aX x=none):Ab g (fun y=>if y=x then some d else aX y) a u l:=by
 induction h with
 | here=>exact .here
 | @step v c m h1 h2 h3 h4 _ h6 ih =>
  refine .step h1 ?_ h3 h4 ih h6;have:v≠x:=fun e=>by rw[e,hx] at h2;cases h2
  rw[if_neg this];exact h2
theorem Ab.link {g:Gr} {aX:jg} {a:Int} {u:Int} {l:List Int} (h:Ab g aX a u l):eR g a l u/\(∀ d∈l,0<=d)/\(l.map g.head).Nodup/\a ∉ l.map g.head:=by
 induction h with
 | here=>exact⟨rfl,by simp,by simp,by simp⟩
 | step h1 h2 h3 h4 _ h6 ih =>
  obtain⟨i1,i2,i3,i4⟩:=ih;refine⟨eR.append.2 ⟨_,i1,⟨rfl,h4⟩⟩,fun d hd=>?_,?_,?_⟩
  ·rcases Qs.1 hd with q | q
   ·exact i2 d q
   rw[Qa.1 q];exact h3
  ·rw[QN,QS]
   refine⟨i3,by simp,fun x hx y hy e=>?_⟩;simp only[QQ,Q4,Qa] at hy;rw[hy,h4] at e;exact h6 (e ▸ hx)
  rw[QN,Qs];rintro (q | q)
  ·exact i4 q
  simp only[QQ,Q4,Qa] at q;exact h1 (h4.symm.trans q.symm)
theorem Ab.met {g:Gr} {aX:jg} {a:Int} {u:Int} {l:List Int} (hb:aX a≠none) (h:Ab g aX a u l):aX u≠none/\∀ d∈l,aX (g.head d)≠none/\aX (g.tail d)≠none:=by
 induction h with
 | here=>exact⟨hb,by simp⟩
 | @step v c m h1 h2 h3 h4 _ h6 ih =>
  have hu:aX v≠none:=by rw[h2];simp
  refine⟨hu,fun d hd=>?_⟩;rcases Qs.1 hd with q | q
  ·exact ih.2 d q
  rw[Qa.1 q,h4];exact⟨hu,ih.1⟩
theorem Ab.back {g:Gr} {aX:jg} {a:Int} {u:Int} {l:List Int} (hb:aX a=some (-1)) (h:Ab g aX a u l):∀ n,l.length<n->(Bi g aX n ((aX u).getD 0)).reverse=l:=by
 induction h with
 | here =>
  intro n hn
  match n,hn with
  | n+1,_=>rw[hb];rfl
 | step h1 h2 h3 h4 _ h6 ih =>
  intro n hn
  match n,hn with
  | n+1,hn =>
   rw[h2];show (if _<0 then [] else _ :: Bi g aX n _).reverse=_;rw[if_neg (by show ¬ (_:Int)<0;simp only[QY];omega)];rw[List.reverse_cons,QY,ih n (by simp at hn;omega)]
theorem vU.start {g:Gr} {on:Int->Bool} {p:Pt} {a:Int}:vU g on p a (fun y=>if y=a then some (-1) else none) :=
 ⟨if_pos rfl,fun u hu=>by
  by_cases e:u=a
  ·rw[e];exact⟨[],.here,by simp,by simp⟩
  simp[e] at hu⟩
theorem vU.add {g:Gr} {on:Int->Bool} {p:Pt} {a:Int} {aX:jg} (h:vU g on p a aX) {d:Int} (hd:d∈p.ag) (h0:0<=d) (hm:aX (g.tail d)≠none) (ho:g.tail d=a\/on (g.tail d)=false) (hn:aX (g.head d)=none):vU g on p a (fun y=>if y=g.head d then some d else aX y):=by
 have lT:aX a≠none:=by rw[h.base];simp
 have hna:a≠g.head d:=fun e=>lT (by rw[e];exact hn);refine⟨by rw[if_neg hna];exact h.base,fun u hu=>?_⟩;by_cases e:u=g.head d
 ·subst e
  obtain⟨l,h1,h2,h3⟩:=h.trc _ hm;refine⟨l++[d],.step (fun e=>hna e.symm) (if_pos rfl) h0 rfl (h1.grow hn) (fun q=>?_),fun x hx=>?_,fun x hx=>?_⟩
  ·obtain⟨x,hx,e⟩:=Qm.1 q
   exact ((h1.met lT).2 x hx).1 (by rw[e];exact hn)
  ·rcases Qs.1 hx with q | q
   ·exact h2 x q
   rw[Qa.1 q];exact hd
  cases l with
  | nil=>simp at hx
  | cons y l =>
   rcases Qs.1 (show x∈l++[d] from hx) with q | q
   ·exact h3 x q
   rw[Qa.1 q];refine ho.resolve_left fun e=>?_;have k:=h1.link;rw[e] at k
   -- a trace to a is empty
   obtain⟨k1,-,-,k4⟩:=k;apply k4;rcases List.eq_nil_or_concat (y :: l) with r | ⟨m,z,r⟩
   ·cases r
   rw[r] at k1 ⊢;rw[List.concat_eq_append] at k1 ⊢;have:=gx k1;rw[QN];simp[this]
 obtain⟨l,h1,h2,h3⟩:=h.trc u (by rw[if_neg e] at hu;exact hu);exact⟨l,h1.grow hn,h2,h3⟩
structure TX (g:Gr) (on:Int->Bool) (p:Pt) (a:Int) (aX:jg) (q:List Int):Prop where
 inv:vU g on p a aX
 off:∀ u,aX u≠none->u=a\/on u=false
 inq:∀ u∈q,aX u≠none
 done:∀ u,aX u≠none->u∈q\/∀ d∈a8 g p u,aX (g.head d)≠none
theorem yG {g:Gr} {on:Int->Bool} {p:Pt} {a u:Int} (qL:∀ d∈p.ag,0<=d):∀ (ds:List Int) {aX:jg} {q:List Int},(∀ d∈ds,d∈a8 g p u)->aX u≠none->(u=a\/on u=false)->vU g on p a aX->(∀ x,aX x≠none->x=a\/on x=false) ->
  match eP g on ds aX q with
  | (some z,c,_)=>vU g on p a c/\c z≠none/\on z=true/\z≠a
  | (none,c,q')=>vU g on p a c/\(∀ x,c x≠none->x=a\/on x=false)/\(∀ x,aX x≠none->c x≠none)/\(∀ d∈ds,c (g.head d)≠none)/\(∀ x,c x≠none->aX x≠none\/x∈q')/\(∀ x∈q',x∈q\/c x≠none)/\∀ x∈q,x∈q'
 | [],aX,q,_,_,_,h,ho=>⟨h,ho,fun _ hx=>hx,by simp,fun x hx=>Qb hx,fun x hx=>Qb hx,fun x hx=>hx⟩
 | d :: ds,aX,q,hs,hu,I4,h,ho=>by
  have zD:=bk.1 (hs d (by simp));show match (match aX (g.head d) with
   | some _=>eP g on ds aX q
   | none=>if on (g.head d) then (some (g.head d),(fun y=>if y=g.head d then some d else aX y),q) else eP g on ds (fun y=>if y=g.head d then some d else aX y) (q++[g.head d])) with
   | (some z,c,_)=>_
   | (none,c,q')=>_
  cases hc:aX (g.head d) with
  | some x =>
   have ih:=yG (g:=g) (on:=on) (p:=p) (a:=a) (u:=u) qL ds (aX:=aX) (q:=q) (fun d hd=>hs d (Qp _ hd)) hu I4 h ho;simp only
   revert ih
   match eP g on ds aX q with
   | (some z,c,_)=>exact fun ih=>ih
   | (none,c,q') =>
    rintro ⟨i1,i2,i3,i4,i5,i6⟩;refine⟨i1,i2,i3,fun e he=>?_,i5,i6⟩;rcases Qk.1 he with rfl | he
    ·exact i3 _ (by rw[hc];simp)
    exact i4 e he
  | none =>
   have iw:=h.add zD.1 (qL d zD.1) (by rw[zD.2];exact hu) (by rw[zD.2];exact I4) hc;by_cases jW:on (g.head d)=true
   ·simp only[jW,if_true]
    refine⟨iw,by simp,by first | exact jW | trivial,fun e=>?_⟩;have:=h.base;rw[<-e,hc] at this;cases this
   simp only[jW];have iS:∀ x,aX x≠none->(if x=g.head d then some d else aX x)≠none:=fun x hx=>by
    by_cases e:x=g.head d
    ·rw[if_pos e];simp
    rw[if_neg e];exact hx
   have ih:=yG (g:=g) (on:=on) (p:=p) (a:=a) (u:=u) qL ds (aX:=fun y=>if y=g.head d then some d else aX y) (q:=q++[g.head d]) (fun d hd=>hs d (Qp _ hd)) (iS u hu) I4 iw (fun x hx=>by
    by_cases e:x=g.head d
    ·rw[e];exact Ql (Qo.2 jW)
    simp only[if_neg e] at hx;exact ho x hx)
   revert ih
   simp only[QR,if_false]
   match eP g on ds (fun y=>if y=g.head d then some d else aX y) (q++[g.head d]) with
   | (some z,c,_)=>exact fun ih=>ih
   | (none,c,q') =>
    rintro ⟨i1,i2,i3,i4,i5,i6,i7⟩;refine⟨i1,i2,fun x hx=>i3 x (iS x hx),fun e he=>?_,fun x hx=>?_,fun x hx=>?_,fun x hx=>i7 x (by simp[hx])⟩
    ·rcases Qk.1 he with rfl | he
     ·exact i3 _ (by simp)
     exact i4 e he
    ·rcases i5 x hx with r | r
     ·by_cases e:x=g.head d
      ·exact Ql (i7 x (by simp[e]))
      simp only[if_neg e] at r;exact Qb r
     exact Ql r
    rcases i6 x hx with r | r
    ·rcases Qs.1 r with r | r
     ·exact Qb r
     rw[Qa.1 r];exact Ql (i3 _ (by simp))
    exact Ql r
def je (l:List Int) (aX:jg):Nat:=(l.filter fun u=>(aX u).isNone).length
theorem vZ {l:List Int} {f:jg} {x c:Int} (hn:l.Nodup) (hx:x∈l) (hf:f x=none):je l (fun y=>if y=x then some c else f y)+1=je l f :=
 rS (p:=⟨l,[]⟩) hn hx hf
theorem sQ {g:Gr} {on:Int->Bool} {V:List Int} (hV:V.Nodup):∀ (ds:List Int) {aX:jg} {q:List Int},(∀ d∈ds,g.head d∈V) ->
  (eP g on ds aX q).1=none->(eP g on ds aX q).2.2.length+je V (eP g on ds aX q).2.1=q.length+je V aX
 | [],_,_,_,_=>rfl
 | d :: ds,aX,q,hs,hz=>by
  unfold eP at hz ⊢;cases hc:aX (g.head d) with
  | some x =>
   rw[hc] at hz;exact sQ hV ds (fun d hd=>hs d (Qp _ hd)) hz
  | none =>
   rw[hc] at hz;by_cases jW:on (g.head d)=true
   ·simp only[jW,if_true] at hz
    cases hz
   simp only[jW,QR,if_false] at hz ⊢;rw[sQ hV ds (fun d hd=>hs d (Qp _ hd)) hz];have:=vZ (c:=d) hV (hs d (by simp)) hc;rw[List.length_append];simp only[QJ,Q3];omega
theorem sM {g:Gr} {on:Int->Bool} {p:Pt} {a:Int} (qL:∀ d∈p.ag,0<=d) (hV:p.v.Nodup) (hs:∀ d∈p.ag,g.head d∈p.v):∀ (n:Nat) {aX:jg} {q:List Int},TX g on p a aX q->q.length+je p.v aX<n ->
  match iU g on p n aX q with
  | (some z,c)=>vU g on p a c/\c z≠none/\on z=true/\z≠a
  | (none,c)=>TX g on p a c []
 | 0,_,_,_,h=>by omega
 | n+1,aX,[],h,_=>h
 | n+1,aX,u :: q,h,hn=>by
  unfold iU;have hu:=h.inq u (by simp);have h1:=yG (g:=g) (on:=on) (p:=p) (a:=a) (u:=u) qL (a8 g p u) (aX:=aX) (q:=q) (fun d hd=>hd) hu (h.off u hu) h.inv h.off;have h2:=sQ (g:=g) (on:=on) hV (a8 g p u) (aX:=aX) (q:=q) (fun d hd=>hs d (bk.1 hd).1)
  revert h1 h2
  match eP g on (a8 g p u) aX q with
  | (some z,c,_)=>exact fun h1 _=>h1
  | (none,c,q') =>
   rintro ⟨i1,i2,i3,i4,i5,i6,i7⟩ h2;have h2:=h2 rfl;simp only at h2 ⊢;refine sM qL hV hs n ⟨i1,i2,fun x hx=>?_,fun x hx=>?_⟩ (by simp at hn;omega)
   ·rcases i6 x hx with r | r
    ·exact i3 x (h.inq x (by simp[r]))
    exact r
   rcases i5 x hx with r | r
   ·rcases h.done x r with r | r
    ·rcases Qk.1 r with r | r
     ·right;intro d hd;rw[r] at hd;exact i4 d hd
     exact Qb (i7 x r)
    exact Ql fun d hd=>i3 _ (r d hd)
   exact Qb r
def I3 (g:Gr) (on:Int->Bool) (E:List Int):Prop:=∀ Q:Int->Int->Prop,qw Q->(∀ e∈E,∀ f∈E,Lk g on e f->Q e f)->∀ e∈E,∀ f∈E,Q e f
theorem xI {g:Gr} {p:Pt} {e v:Int} (he:e∈p.e) (h:cI g e v):∃ d∈a8 g p v,d / 2=e:=by
 have h0:=dV g e;rcases h with h | h
 ·exact⟨2*e,bk.2 ⟨aw.2 (by rwa[show 2*e / 2=e by omega]),by rw[h0.1,h]⟩,by omega⟩
 exact⟨aE (2*e),bk.2 ⟨bu (aw.2 (by rwa[show 2*e / 2=e by omega])),by rw[aA,h0.2,h]⟩,by rw[bA];omega⟩
theorem et (g:Gr) (d:Int):cI g (d / 2) (g.tail d)/\cI g (d / 2) (g.head d):=by
 unfold cI;rcases iC g d with ⟨h1,h2⟩ | ⟨h1,h2⟩
 ·exact⟨Or.inl h1.symm,Ql h2.symm⟩
 exact⟨Or.inr h1.symm,Qb h2.symm⟩
theorem fM {g:Gr} {d v:Int} (h:cI g (d / 2) v):v=g.tail d\/v=g.head d:=by
 unfold cI at h;rcases iC g d with ⟨h1,h2⟩ | ⟨h1,h2⟩ <;> rcases h with h | h
 ·exact Qb (h.symm.trans h1.symm)
 ·exact Ql (h.symm.trans h2.symm)
 ·exact Ql (h.symm.trans h2.symm)
 exact Qb (h.symm.trans h1.symm)
theorem KC {g:Gr} {on:Int->Bool} {p:Pt} {a z e0 e1:Int} {aX:jg} (h:TX g on p a aX []) (hh:I3 g on p.e) (h0:e0∈p.e) (ha:cI g e0 a) (h1:e1∈p.e) (hz:cI g e1 z) (M7:on z=true) (M0:z≠a):False:=by
 have Rf:∀ u,aX u≠none->∀ d∈a8 g p u,aX (g.head d)≠none:=fun u hu=>(h.done u hu).resolve_left (by simp);have bV:∀ e∈p.e,∀ v,cI g e v->aX v≠none->∀ u,cI g e u->aX u≠none:=fun e he v hv hm u hu=>by
  obtain⟨d,hd,nR⟩:=xI he hv;have yN:=(bk.1 hd).2;rw[<-nR] at hu;rcases fM hu with q | q
  ·rw[q,yN];exact hm
  rw[q];exact Rf v hm d hd
 have hq:=hh (fun e f=>(∀ u,cI g e u->aX u≠none)↔∀ u,cI g f u->aX u≠none) ⟨fun _=>Iff.rfl,fun q=>q.symm,fun q r=>q.trans r⟩ (fun e he f hf ⟨v,_,h1,h2⟩=>⟨fun q=>bV f hf v h2 (q v h1),fun q=>bV e he v h1 (q v h2)⟩) e0 h0 e1 h1;have hb:aX a≠none:=by rw[h.inv.base];simp
 have:=hq.1 (bV e0 h0 a ha hb) z hz;rcases h.off z this with q | q
 ·exact M0 q
 rw[M7] at q;cases q
structure PX (g:Gr) (on:Int->Bool) (p:Pt) (w:List Int) (a z:Int):Prop where
 link:eR g a w z
 ne:a≠z
 oz:on z=true
 cY:(w.map g.head).Nodup
 na:a ∉ w.map g.head
 inn:∀ d∈w.tail,on (g.tail d)=false
 sub:∀ d∈w,d∈p.ag
def l5 (g:Gr) (on:Int->Bool) (p:Pt) (a:Int):List Int :=
 match iU g on p (p.v.length+2) (fun y=>if y=a then some (-1) else none) [a] with
 | (some z,c)=>(Bi g c (p.v.length+2) ((c z).getD 0)).reverse
 | (none,_)=>[]
theorem Ad {g:Gr} {on:Int->Bool} {p:Pt} {a:Int}:TX g on p a (fun y=>if y=a then some (-1) else none) [a] :=
 ⟨vU.start,fun u hu=>Qb (by by_cases e:u=a;exact e;simp[e] at hu),fun u hu=>by simp[Qa.1 hu],fun u hu=>Qb (by by_cases e:u=a;simp[e];simp[e] at hu)⟩
theorem yB {p:Pt} {a:Int}:[a].length+je p.v (fun y=>if y=a then some (-1) else none)<p.v.length+2:=by
 have:=Qz (fun u=>(if u=a then some (-1:Int) else none).isNone) p.v;unfold je;simp only[QJ,Q3];omega
theorem yw {g:Gr} {on:Int->Bool} {p:Pt} {a z0 e0 e1:Int} (hp:aH g p) (qL:∀ d∈p.ag,0<=d) (hh:I3 g on p.e) (h0:e0∈p.e) (ha:cI g e0 a) (h1:e1∈p.e) (hz:cI g e1 z0) (M7:on z0=true) (M0:z0≠a) :
  ∃ z,PX g on p (l5 g on p a) a z:=by
 have hw:=sM (g:=g) (on:=on) (a:=a) qL hp.vn (fun d hd=>(hp.aQ hd).2) (p.v.length+2) Ad yB;unfold l5
 revert hw
 match iU g on p (p.v.length+2) (fun y=>if y=a then some (-1) else none) [a] with
 | (none,c)=>exact fun hw=>(KC hw hh h0 ha h1 hz M7 M0).elim
 | (some z,c) =>
  rintro ⟨w1,w2,w3,w4⟩;simp only;obtain⟨l,l1,l2,l3⟩:=w1.trc z w2;obtain⟨k1,k2,k3,k4⟩:=l1.link;have hlen:l.length<=p.v.length:=by
   have:=bQ k3 fun x hx=>by
    obtain⟨d,hd,rfl⟩:=Qm.1 hx;exact (hp.aQ (l2 d hd)).2
   simpa using this
  rw[l1.back w1.base _ (by omega)];exact⟨z,k1,fun e=>w4 e.symm,w3,k3,k4,l3,l2⟩
end Go.Proofs.YtbkjljffnkdcjaaGreat.Plain
