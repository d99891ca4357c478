/- ref04.Twin, ref06.Step, ref06.Next: contracts. Conditions: a right part, right turns that lie in memory and read so; a Gq of the part. -/
import Derived.Test.YtoiflofhcmjpoaaGreatF9RefF
set_option maxRecDepth 100000
set_option maxHeartbeats 8000000
open List renaming getD→Qa,length_filter_le→Qc,length_reverse→Qe,length_map→Qg,append_nil→Qh
open Int renaming tmod_eq_emod_of_nonneg→Qb
open Go.Value renaming ownBlock→Qd,slice→Qk,int→Qm
open Nat renaming zero_le→Qf,le_refl→Ql
open Or renaming inr→Qi
open Go.Act renaming put→Qj
-- READS ONLY
namespace Go.Proofs.YtoiflofhcmjpoaaGreat
open Go.RowKit Go.Maps
theorem SI (d:Nat) (w:World) (hd:d<4611686018427387904) :
  Calls Tryz.prog 140 #[.int .i64 d] w λe w'=>e=.returned (.int .i64 (Plain.aH d))/\w'=w:=by
 rcases (show (∃ e,d=2*e)\/∃ e,d=2*e+1 from by rcases Nat.mod_two_eq_zero_or_one d with h | h;exact Or.inl ⟨d / 2,by omega⟩;exact Qi ⟨d / 2,by omega⟩) with ⟨e,rfl⟩ | ⟨e,rfl⟩
 ·obtain⟨q1,q2⟩:=pw e
  have HE:=lh (show Plain.aH ((2*e:Nat):Int)=((2*e:Nat):Int)+1 by unfold Plain.aH;rw[if_pos (by omega)]);have w1:IntKind.i64.wrap (((2*e:Nat):Int)+1)=((2*e:Nat):Int)+1:=IntWalk.i64_in _ (by omega);generalize ((2*e:Nat):Int)=dd at *;go_enter Tryz.func140,Tryz.ntmps140;go_wp2;go_ret;exact⟨aR HE.out.symm,rfl⟩
 obtain⟨q1,q2⟩:=tN e;have HE:=lh (show Plain.aH ((2*e+1:Nat):Int)=((2*e+1:Nat):Int) - 1 by unfold Plain.aH;rw[if_neg (by omega)]);have w1:IntKind.i64.wrap (((2*e+1:Nat):Int) - 1)=((2*e+1:Nat):Int) - 1:=IntWalk.i64_in _ (by omega);generalize ((2*e+1:Nat):Int)=dd at *;go_enter Tryz.func140,Tryz.ntmps140;go_wp2;go_ret;exact⟨aR HE.out.symm,rfl⟩
theorem Hi (vg vt:Value) (g:Plain.Gr) (p:Plain.Pt) (aa:List (List Int)) (d:Nat) (w:World) (hd:(d:Int)∈p.ah) (dk:p.err g=0) (kq:Plain.aK g p aa) (qX:∀ v,(Plain.ay aa v).length<4294967296) (hg:cA w vg g) (ht:fY w vt aa) :
  Calls Tryz.prog 139 #[vg,vt,.int .i64 d,.int .i64 (-1)] w λe w'=>e=.returned (.int .i64 (Plain.before g aa d))/\ai [] w w':=by
 have zR:=Plain.Pt.ax dk;have jw:=Plain.Gr.aF (Plain.Pt.aF dk).1;have Hq:=zR.vr _ (zR.aP hd).1;have qn:=Plain.Pt.gS dk (Plain.au.1 hd);have oF:d / 2<g.e.length:=by omega
 have wE:g.e.length<4294967296:=by omega
 have dE:=(kq.mem _ Hq.1 Hq.2 d).2 ⟨hd,rfl⟩;have hlen:=kq.len;have nr:Plain.before g aa d=Plain.ahead (Plain.ay aa (g.tail d)) d:=rfl;have HG:=lh hg;have HT:=lh ht;obtain⟨Y2,tc,rfl,Aw,-⟩:=ht;obtain⟨tv,htv⟩:∃ tv:Nat,g.tail d=tv:=⟨(g.tail d).toNat,by omega⟩;rw[htv] at Hq dE nr;have aou:tv<aa.length:=by omega
 obtain⟨tb,agT,uo,uc,rfl,j6,aT⟩:=HT.out.row aou;have UL:Plain.ay aa (tv:Int)=aa.getD tv []:=by unfold Plain.ay;rw[Int.toNat_natCast]
 rw[UL] at dE nr;have hTl:=qX (tv:Int);rw[UL] at hTl;have bA:=lh aT;generalize aa.getD tv []=T at *;have xo:=List.idxOf_lt_length_iff.2 dE;have Ke:=lh (show Plain.nE T d=(T.idxOf (d:Int):Nat) from if_pos dE);have hBE:=lh (show Plain.before g aa d=T.getD ((T.idxOf (d:Int)+T.length - 1) % T.length) 0 from nr);generalize T.idxOf (d:Int)=ix at *;have w1:IntKind.i64.wrap ((ix:Int) + -1)=(ix:Int) + -1:=IntWalk.i64_in _ (by omega);have w2:IntKind.i64.wrap ((ix:Int) + -1+(T.length:Int))=((ix+T.length - 1:Nat):Int):=by rw[IntWalk.i64_in _ (by omega)];omega
 obtain⟨j,hj⟩:∃ j,(ix+T.length - 1) % T.length=j:=⟨_,rfl⟩;have w3:Int.tmod ((ix+T.length - 1:Nat):Int) (T.length:Int)=(j:Int):=by rw[Qb (by omega),<-hj];omega
 have pr:j<T.length:=by rw[<-hj];exact Nat.mod_lt _ (by omega)
 have Da:((T.length:Int)==0)=false:=by rw[beq_eq_false_iff_ne];omega
 rw[hj] at hBE;obtain⟨eo,cap,rfl,-,-,-,-⟩:=hg;have aY:=lh ((ai.refl [] w).alloc (.cells #[.int .i64 g.n,.slice eo g.e.length cap] 24));have tc1:=λo=>fO j6 o;have Iq:=lh htv;clear zR jw dE hlen nr UL aT htv hj qn hd kq qX dk;go_enter Tryz.func139,Tryz.ntmps139;go_wp2_with fail;refine (Av _ g d _ oF wE (HG.out.fresh aY.out)).mono ?_;rintro e w2' ⟨rfl,bI⟩;rw[Iq.out];have bU:=lh (aY.out.t bI);have abW:=bU.out.c j6;clear bI tc1 j6;go_wp2_with fail;refine (zY _ T (d:Int) _ (bA.out.fresh bU.out)).mono ?_;rintro e w3' ⟨rfl,dK⟩;rw[Ke.out];obtain⟨rb,sy,rfl,xK⟩:=aI.cellAt bA.out pr;have b8:=lh (bU.out.t dK);have c3:=b8.out.c xK;clear dK xK abW;go_wp2;go_ret;exact⟨aR (by rw[hBE.out];simp[Qa,pr]),b8.out⟩
theorem pH (vg vt:Value) (g:Plain.Gr) (p:Plain.Pt) (aa:List (List Int)) (d:Nat) (w:World) (hd:(d:Int)∈p.ah) (dk:p.err g=0) (kq:Plain.aK g p aa) (qX:∀ v,(Plain.ay aa v).length<4294967296) (hg:cA w vg g) (ht:fY w vt aa) :
  Calls Tryz.prog 89 #[vg,vt,.int .i64 d] w λe w'=>e=.returned (.int .i64 (Plain.aA g aa d))/\ai [] w w':=by
 have zR:=Plain.Pt.ax dk;have jw:=Plain.Gr.aF (Plain.Pt.aF dk).1;have qn:=Plain.Pt.gS dk (Plain.au.1 hd);have lU:d<4611686018427387904:=by omega
 have xq:=Plain.bD hd;have Ka:=Plain.Pt.gS dk (Plain.au.1 xq);obtain⟨td,zu⟩:∃ td:Nat,Plain.aH d=td:=⟨(Plain.aH d).toNat,by omega⟩;have HND:=lh (show Plain.aA g aa d=Plain.before g aa td by unfold Plain.aA;rw[zu]);have HG:=lh hg;have HT:=lh ht;rw[zu] at xq;have HTD:=lh zu;have HTW:=lh xq;have UC:=lh kq;have uu:=lh dk;have AU:=lh qX;obtain⟨eo,cap,rfl,-,-,-,-⟩:=hg;obtain⟨Y2,tc,rfl,Aw,-⟩:=ht;have hb:=heap_alloc_new w (.cells #[.int .i64 g.n,.slice eo g.e.length cap] 24);have x0:=(cell_of_row _ _ 0 _ _ _ hb).trans (show _=some (Qm .i64 g.n) from rfl);have x1:=(cell_of_row _ _ 1 _ _ _ hb).trans (show _=some (Qk eo g.e.length cap) from rfl);have aY:=lh ((ai.refl [] w).alloc (.cells #[.int .i64 g.n,.slice eo g.e.length cap] 24));clear zR jw qn Ka xq zu kq dk qX hb;go_enter Tryz.func89,Tryz.ntmps89;go_wp2;generalize (w.alloc (.cells #[.int .i64 g.n,.slice eo g.e.length cap] 24))=w1 at *;have aG:ai [] w1 w1.drew:=(ai.refl [] w1).drew;refine al (ai [] w1) [0,1,2] (Way.line [0,1,2,3,4,5] .done) (by kernel_rfl) (by kernel_rfl) ?_;simp only[Way.line]
 repeat (refine aj (v:=?_) rfl (by rfl) (by rfl) (λ_ _ _ h=>h) aG (λw' aB=>?_) ?_;rotate_left;(focus (have fE:=aB.c x0;have fV:=aB.c x1;clear aB;go_simp;try with_reducible rfl));simp only[Qj,Z1,Z2,Z3,Z4,Z5,Z6])
 refine aq rfl (by rfl) (by rfl) (λK hK=>?_);go_simp;refine (SI d _ lU).mono ?_;rintro e w2 ⟨rfl,rfl⟩;refine hK.out _ _ (λ_=>aG) ?_;clear hK K;rw[HTD.out];try simp only[Qj,Z1,Z2,Z3,Z4,Z5,Z6]
 refine aq rfl (by rfl) (by rfl) (λK hK=>?_);go_simp;refine (Hi _ _ g p aa td _ HTW.out uu.out UC.out AU.out ((HG.out.fresh aY.out).fresh aG) ((HT.out.fresh aY.out).fresh aG)).mono ?_;rintro e w3 ⟨rfl,eV⟩;have bH:=aG.t eV;clear aG eV;have aG:=bH;clear bH;refine hK.out _ _ (λ_=>aG) ?_;clear hK K;try simp only[Qj,Z1,Z2,Z3,Z4,Z5,Z6]
 refine aq rfl (by rfl) (by rfl) (λK hK=>?_);go_simp;refine hK.out _ _ (λ_=>aG) ?_;clear hK K;try simp only[Qj,Z1,Z2,Z3,Z4,Z5,Z6]
 refine ar ?_;have gU:=lh (aY.out.t aG);clear x0 x1 aG;go_wp2;go_ret;exact⟨aR HND.out.symm,gU.out⟩
theorem Nt:qg 64 119 (.agg #[.int .i64 0,.slice none 0 0]) 2 32:=⟨Tryz.underlying64,by kernel_rfl,rfl,by decide,by decide⟩
theorem K8 {ops:Array Oper} {rest:List Oper} {o:Oper} {a:Act} {Q:Exit->Act->World->Prop} {w w0:World} (hg:o.guard=none) (s x:Operand) (ho:o.op=.call { callee:=.builtin .append,args:=#[s,x],argTypes:=#[64,64] })
  {B T:Nat} {ov v:Value} {F:List Plain.bP} {xs:List Value} {k:Int} {l:List Int} (hs:a.eval s=ov) (hx:a.eval x=.slice (some ⟨w0.heap.size,0,none⟩) 1 1) (h:bN w0 B 119 2 ov F.length xs (dQ F)) (hB:B<=w0.heap.size) (hv:aw w0 B v l)
  (hT:∀ j∈aC v,T<=j) (hX:∀ k b,k<xs.length->(xs.getD k undef).ownBlock=some b->b<T) (hn:F.length<1000000000) (hw:w=w0.alloc (.cells #[.int .i64 k,v] 119))
  (hK:∀ ov' w',bN w' B 119 2 ov' (F++[(k,l)]).length (xs++[.int .i64 k,v]) (dQ (F++[(k,l)]))->ai ov.ownBlock.toList w0 w'->wpList Tryz.prog ops Q rest (a.put o.dst ov') w'):wpList Tryz.prog ops Q (o :: rest) a w:=by
 subst hw;refine pj Nt hg s x ho hs hx rfl h.out hB (cs:=#[.int .i64 k,v]) rfl (by
  intro u hu;simp at hu;rcases hu with rfl | rfl
  ·rfl
  obtain⟨a',c',e⟩:=hv.shape;rw[e];rfl) (by omega) λg cap w' r2 r3 _=>?_
 refine hK _ w' ?_ r3;have hlen:(F++[(k,l)]).length=F.length+1:=by simp
 rw[zy,hlen];exact h.add (w':=w') (g:=g) (cap:=cap) (us:=[.int .i64 k,v]) (ds:=[.num k,.row l]) (by decide) rfl rfl (λi d hi=>by
   rcases i with _ | _ | i
   ·simp at hi;subst hi;rfl
   ·simp at hi;subst hi;exact hv
   ·simp at hi) (λi j hi hj bn=>by
   simp at hi hj;rcases i with _ | _ | i
   ·exact Or.inl rfl
   ·rcases j with _ | _ | j
    ·cases hq:([Qm .i64 k,v].getD 1 undef).ownBlock with
     | none=>exact Or.inl rfl
     | some b=>exact Qi (by simp[Qd])
    ·omega
    omega
   ·omega) (λi j b hi hj hb e=>by
   simp at hj;have:=hX i b hi hb;rcases j with _ | _ | j
   ·simp[Qd] at e
   ·have e':v.ownBlock=some b:=e
    have:=hT b (by rw[hv.aC,e'];simp);omega
   omega) r2 r3
def sliceLen:Value->Nat
 | .slice _ n _=>n
 | _=>0
theorem D' (vg vp vt:Value) (g:Plain.Gr) (p:Plain.Pt) (aa:List (List Int)) (w:World) (mE:p.e.length<=1000000) (Dl:p.v.length<=1000000) (dk:p.err g=0) (kq:Plain.aK g p aa) (qX:∀ v,(Plain.ay aa v).length<4294967296) (hg:cA w vg g) (hp:dt w vp p) (ht:fY w vt aa) :
  Calls Tryz.prog 41 #[vg,vp,vt] w λe w'=>∃ ov xs,e=.returned ov/\bN w' w.heap.size 119 2 ov (Plain.bZ g p aa).length xs (dQ (Plain.bZ g p aa))/\ai [] w w':=by
 have HT:=lh ht;have uu:=lh dk;have UC:=lh kq;have AU:=lh qX;have Ip:=lh (Plain.Pt.ax dk);have fB:=lh (Plain.Gr.aF (Plain.Pt.aF dk).1);have HWK:=lh (Plain.sE dk kq);have HDN:=lh (λd (hd:d∈p.ah)=>Plain.Pt.pd dk hd);have DY:=lh (Plain.ct p);clear dk kq qX;obtain⟨eo,cap,ao,ac,bo,bc,rfl,rfl,HG,HP,hm,uJ,oJ,pU,nG,xL,uD,aY,bm⟩:=eF hg hp;clear hg hp;obtain⟨Y2,tc,rfl,Aw,-⟩:=ht;obtain⟨x0,x1,y0,y1,bs⟩:=bm.out _ (ai.refl _ _);go_enter Tryz.func41,Tryz.ntmps41;go_wp2;obtain⟨w1,gu⟩:∃ w1,((w.alloc (.cells #[.int .i64 g.n,.slice eo g.e.length cap] 24)).alloc (.cells #[.slice ao p.v.length ac,.slice bo p.e.length bc] 27))=w1:=⟨_,rfl⟩;rw[gu] at aY bm ⊢;clear gu x0 x1 y0 y1 bs;have Zl:=lh (HT.out.fresh aY.out);have HB1:=lh aY.out.size;go_loopw [7,8] (λov c wr=>∃ (k:Nat) (xs:List Value),k<=p.v.length/\c=.int .i64 ((k:Int) - 1)/\bN wr w1.heap.size 119 2 ov (Plain.cK aa (p.v.drop k)).length xs (dQ (Plain.cK aa (p.v.drop k)))/\ai [] w1 wr) (λ_ c _=>(intOf c+1).toNat);case atStart=>exact⟨p.v.length,[],Ql _,by go_num,by rw[List.drop_length];exact bN.nil _ _ _ _,ai.refl _ _⟩
 case round =>
  obtain⟨k,xs,hk,rfl,yZ,hc⟩:=hrel;have HN:=lh yZ;have HC:=lh hc;obtain⟨oo,oc,rfl⟩:=yZ.shape;obtain⟨x0,x1,y0,y1,bs⟩:=bm.out wr hc;clear yZ hc;by_cases h0:0<k
  ·obtain⟨j,rfl⟩:∃ j,k=j+1:=⟨k - 1,by omega⟩
   obtain⟨ab,lH,rfl,qJ⟩:=pU.out (by intro e;rw[e] at hk;simp at hk);have Pu:=HC.out.bO (aY.out.bO (qJ j hk));rw[show (((j+1:Nat):Int) - 1)=(j:Int) by omega];have pr:j<p.v.length:=by omega
   have NW:=Ip.out.vr (p.v.getD j 0) (by simp[Qa,pr]);obtain⟨v,hve⟩:∃ v:Nat,p.v.getD j 0=(v:Int):=⟨(p.v.getD j 0).toNat,by omega⟩;have HDR:=lh (show Plain.cK aa (p.v.drop j)=Plain.cK aa (p.v.drop (j+1))++(if (aa.getD v []).isEmpty then [(-1 - (v:Int),[])] else []) by
    rw[List.drop_eq_getElem_cons pr,Plain.Hy];have e1:p.v[j]=(v:Int):=by rw[<-hve];simp[Qa,pr]
    rw[e1];unfold Plain.ay;simp)
   have hvT:v<aa.length:=by have:=UC.out.len;omega
   have hvg:(v:Int)<=1024:=by have:=fB.out.2.1;omega
   rw[hve] at Pu;obtain⟨tb,agT,uo,uc,rfl,hu,-⟩:=Zl.out.row hvT;have hcu:=HC.out.bO hu;have A8:(Plain.cK aa (p.v.drop (j+1))).length<=p.v.length:=by
    unfold Plain.cK;rw[Qg];refine Nat.le_trans (Qc _ _) ?_;rw[Qe,List.length_drop];omega
   have w1e:IntKind.i64.wrap (-1 - (v:Int)) = -1 - (v:Int):=IntWalk.i64_in _ (by omega);obtain⟨F,hF⟩:∃ F,Plain.cK aa (p.v.drop (j+1))=F:=⟨_,rfl⟩;rw[hF] at HN HDR A8 ⊢;obtain⟨l,nn⟩:∃ l,aa.getD v []=l:=⟨_,rfl⟩;rw[nn] at hcu HDR;clear qJ NW hve hu nn h0 hF;cases l with
   | nil =>
    have Ii:=lh (HC.out.size);have qO:=lh (λk b (hk:k<xs.length) (hb:(xs.getD k undef).ownBlock=some b)=>(HN.out.kind hk hb).2.1);have yg:F.length<1000000000:=by omega
    go_wp2_with (at_builtin;refine K8 rfl _ _ rfl (T:=wr.heap.size) (ov:=.slice oo _ oc) rfl rfl HN.out Ii.out (da _ _) (by simp[aC,Qd]) qO.out yg rfl ?_;intro v6 w6 r6 c6;have R6:=lh r6;have C6:=lh c6;clear r6 c6);go_roundw;case rel=>exact⟨j,_,by omega,rfl,by rw[HDR.out];exact R6.out,HC.out.trans C6.out (λj hj=>Qi (HN.out.out.lt j (by simpa using hj)).1)⟩
    case measure=>simp[intOf]
   | cons d0 l0 =>
    have b0:(((d0 :: l0).length:Int)==0)=false:=by rw[beq_eq_false_iff_ne];simp;omega
    go_wp2;go_roundw;case rel=>exact⟨j,xs,by omega,rfl,by rw[HDR.out];simpa using HN.out,HC.out⟩
    case measure=>simp[intOf]
  have e:k=0:=by omega
  subst e;rw[List.drop_zero] at HN ⊢;have hwl:∀ i,(Plain.cK aa p.v++Plain.dL g p aa i).length<=p.v.length+i:=λi=>by
   rw[List.length_append];have:=Plain.Ji g p aa i;unfold Plain.cK;rw[Qg];have h2:=Qc (λv=>(Plain.ay aa v).isEmpty) p.v.reverse;rw[Qe] at h2;omega
  have HWL:=lh hwl;have HN0:=lh (show Plain.cK aa p.v++Plain.dL g p aa 0=Plain.cK aa p.v by rw[Plain.Gc,Qh]);clear hwl x0 x1 y0 y1 bs h0;obtain⟨x0,x1,y0,y1,bs⟩:=bm.out wr HC.out;rw[show (((0:Nat):Int) - 1) = -1 by omega];go_wp2;go_loopw [7,9] (λov c wi=>∃ (i:Nat) (ys:List Value),i<=2*p.e.length/\c=.int .i64 i/\bN wi w1.heap.size 119 2 ov (Plain.cK aa p.v++Plain.dL g p aa i).length ys (dQ (Plain.cK aa p.v++Plain.dL g p aa i))/\ai [] w1 wi) (λ_ c _=>2*p.e.length - (intOf c).toNat);case atStart=>exact⟨0,xs,Qf _,rfl,by rw[HN0.out];exact HN.out,HC.out⟩
  case round =>
   clear HC HN x0 x1 y0 y1 bs;rename World=>wi;obtain⟨i,ys,hi,rfl,yZ,hc⟩:=hrel;have HN:=lh yZ;have HC:=lh hc;obtain⟨oo,oc,rfl⟩:=yZ.shape;obtain⟨x0,x1,y0,y1,bs⟩:=bm.out wi hc;have w2l:IntKind.i64.wrap (2*(p.e.length:Int))=2*(p.e.length:Int):=IntWalk.i64_in _ (by omega);clear yZ hc;by_cases lK:i<2*p.e.length
   ·have Kn:i / 2<p.e.length:=by omega
    obtain⟨bb,eO,rfl,oG⟩:=nG.out (by intro e;rw[e] at lK;simp at lK);have Ij:=HC.out.bO (aY.out.bO (oG (i / 2) Kn));have WA:=Plain.lB Kn (i % 2) (by omega);rw[show 2*(i / 2)+i % 2=i by omega] at WA;have uN:p.ah.getD i 0∈p.ah:=by have:=DY.out;simp[Qa,show i<p.ah.length by omega]
    obtain⟨d,hd,oF,hd3⟩:=HDN.out _ uN;have HMS:=lh (Plain.EW (g:=g) (p:=p) (aa:=aa) (k:=i) (by rw[DY.out];exact lK));have U3:=lh (Plain.z8 Ip.out UC.out uN);have HMA:=lh (show Plain.rG g p aa (p.ah.getD i 0)=(Plain.pO g p aa (p.ah.getD i 0)).all λx=>decide (p.ah.getD i 0<x) from rfl);have HDM:=lh uN;rw[hd] at WA HMS U3 HMA HDM;obtain⟨L,hL⟩:∃ L,Plain.pO g p aa (d:Int)=L:=⟨_,rfl⟩;rw[hL] at HMS U3 HMA;have hLl:L.length<=2*p.e.length:=by
     have h1:=Plain.bY U3.out.nodup (m:=p.ah) U3.out.sub;have:=DY.out;simp at h1;omega
    obtain⟨ev,qB⟩:∃ ev:Nat,p.e.getD (i / 2) 0=ev:=by
     refine⟨d / 2,?_⟩;omega
    rw[qB] at Ij WA;have q1:Int.tdiv (i:Int) 2=((i / 2:Nat):Int):=by rw[Int.tdiv_eq_ediv_of_nonneg (by omega)];omega
    have q2:Int.tmod (i:Int) 2=(i:Int) % 2:=by rw[Qb (by omega)]
    have q3:IntKind.i64.wrap (2*(ev:Int))=2*(ev:Int):=IntWalk.i64_in _ (by omega);have q4:IntKind.i64.wrap (2*(ev:Int)+(i:Int) % 2)=(d:Int):=by rw[IntWalk.i64_in _ (by omega)];omega
    have hWL:=HWL.out i;obtain⟨G,hG⟩:∃ G,Plain.cK aa p.v++Plain.dL g p aa i=G:=⟨_,rfl⟩;have Si:=lh (show Plain.cK aa p.v++Plain.dL g p aa (i+1)=G++(if Plain.rG g p aa d then [((d:Int),(d:Int) :: L)] else []) by rw[HMS.out,<-List.append_assoc,hG]);rw[hG] at HN hWL ⊢;have YE:=lh (show bF (d:Int) from bF.mk (by omega) (by omega));have PU:=lh (λwx (hx:ai [] wi wx)=>bm.out wx (HC.out.tr hx));have aew:=Plain.Lr U3.out.ring (Qf _);have ab6:Plain.aA g aa d=(L++[(d:Int)]).getD 0 0:=aew;obtain⟨nd,gp⟩:∃ nd,(L++[(d:Int)]).getD 0 0=nd:=⟨_,rfl⟩;rw[gp] at ab6;have HND:=lh ab6;have am3:=lh gp;clear ab6 gp;have x0n:=λo=>fO x0 o;have x1n:=λo=>fO x1 o;clear oG uN hL qB hG hd aew WA;go_wp2_with fail;have hLT:=(ai.refl [] wi).alloc (.cells #[.int .i64 (d:Int)] 3);have HLT:=lh hLT;have HLR:=lh (pP (w:=wi) (B:=wi.heap.size) (Ql _) YE.out);refine (pH _ _ g p aa d _ HDM.out uu.out UC.out AU.out ((HG.out.fresh aY.out).fresh (HC.out.tr hLT)) (Zl.out.fresh (HC.out.tr hLT))).mono ?_;rintro e w3 ⟨rfl,dK⟩;have b8:=lh (HLT.out.tr dK);have PI:=lh (HLR.out.aL dK (by simp));rw[HND.out];clear hLT dK x0 x1 y0 y1 bs Ij x0n x1n;go_wp2;go_loopw [11,12,13] (λlv bv xv wx=>∃ j:Nat,j<=L.length/\aw wx wi.heap.size lv ((d:Int) :: L.take j)/\bv=.bool ((L.take j).all λx=>decide ((d:Int)<x))/\xv=.int .i64 ((L++[(d:Int)]).getD j 0)/\ai [] wi wx) (λlv _ _ _=>L.length+2 - sliceLen lv);case atStart=>exact⟨0,Qf _,by simpa using PI.out,by simp,by rw[am3.out],b8.out⟩
    case round =>
     rename World=>wx;obtain⟨j,hj,aT,rfl,rfl,eV⟩:=hrel;have bA:=lh aT;obtain⟨lo,lc,rfl⟩:=aT.shape;have xS:=lh eV;obtain⟨x0,x1,y0,y1,bs⟩:=PU.out _ eV;clear aT eV;by_cases pr:j<L.length
     ·have jw:(L++[(d:Int)]).getD j 0=L.getD j 0:=by simp[Qa,List.getElem?_append_left pr]
      have T5:L.getD j 0∈L:=by simp[Qa,pr]
      have bn:L.getD j 0≠(d:Int):=λe=>(List.nodup_cons.1 U3.out.nodup).1 (e ▸ T5);have hzd:=U3.out.sub _ (List.mem_cons_of_mem _ T5);have Zg:=Plain.Lr U3.out.ring (k:=j+1) (by omega);rw[show ((d:Int) :: L).getD (j+1) 0=L.getD j 0 from rfl] at Zg;have uH:=lh (Plain.mV pr);rw[jw];obtain⟨z,hz,-,hz3⟩:=HDN.out _ hzd;rw[hz] at bn hzd Zg uH ⊢;have HZD:=lh hzd;obtain⟨nx,aah⟩:∃ nx,(L++[(d:Int)]).getD (j+1) 0=nx:=⟨_,rfl⟩;rw[aah] at Zg;have qO:=lh Zg;have afU:=lh aah;clear aah;have b1:((z:Int) != (d:Int))=true:=by simp only[bne_iff_ne];exact bn
      have HIZ:=lh (show bF (z:Int) from bF.mk (by omega) (by omega));have hlen:((d:Int) :: L.take j).length<4294967290:=by simp;omega
      have wA:=lh xS.out.size;have AW:((d:Int) :: L.take j).length=j+1:=by simp;omega
      have sm:=lh (show ((L.take (j+1)).all λx=>decide ((d:Int)<x))=(((L.take j).all λx=>decide ((d:Int)<x))&&decide ((d:Int)<(z:Int))) by rw[uH.out,List.all_append];simp);clear jw T5 bn hzd Zg hz;cases hb:(L.take j).all λx=>decide ((d:Int)<x) with
      | true =>
       rw[hb] at sm;clear hb;go_wp2_with (first | (at_builtin;refine eN rfl _ _ rfl (B:=wi.heap.size) (v:=.slice lo _ lc) rfl rfl bA.out HIZ.out wA.out hlen rfl ?_;intro v6 w6 r6 c6 f6;have R6:=lh r6;have fC:=lh (xS.out.trans c6 (λj hj=>Qi (by rw[bA.out.aC] at hj;exact (bA.out.low j hj).1)));clear r6 c6 f6;clear x0 x1 y0 y1 bs;obtain⟨x0,x1,y0,y1,bs⟩:=PU.out _ fC.out) | fail);refine (pH _ _ g p aa z _ HZD.out uu.out UC.out AU.out ((HG.out.fresh aY.out).fresh (HC.out.tr fC.out)) (Zl.out.fresh (HC.out.tr fC.out))).mono ?_;rintro e w7 ⟨rfl,hc7⟩;rw[qO.out];have oT:=lh (fC.out.tr hc7);have Ew:=lh (R6.out.aL hc7 (by simp));clear hc7 x0 x1 y0 y1 bs;obtain⟨v6o,v6c,rfl⟩:=R6.out.shape;obtain⟨n6,Ba⟩:∃ n6,((d:Int) :: L.take j++[(z:Int)]).length=n6:=⟨_,rfl⟩;have HN6:=lh (show n6=j+2 by rw[<-Ba];simp;omega);rw[Ba] at Ew ⊢;clear Ba;go_wp2;go_roundw;case rel=>exact⟨j+1,by omega,by rw[uH.out];exact Ew.out,by rw[sm.out];simp,by rw[afU.out],oT.out⟩
       case measure=>have:=HN6.out;simp[sliceLen];omega
      | false =>
       rw[hb] at sm;clear hb;go_wp2_with (first | (at_builtin;refine eN rfl _ _ rfl (B:=wi.heap.size) (v:=.slice lo _ lc) rfl rfl bA.out HIZ.out wA.out hlen rfl ?_;intro v6 w6 r6 c6 f6;have R6:=lh r6;have fC:=lh (xS.out.trans c6 (λj hj=>Qi (by rw[bA.out.aC] at hj;exact (bA.out.low j hj).1)));clear r6 c6 f6;clear x0 x1 y0 y1 bs;obtain⟨x0,x1,y0,y1,bs⟩:=PU.out _ fC.out) | fail);refine (pH _ _ g p aa z _ HZD.out uu.out UC.out AU.out ((HG.out.fresh aY.out).fresh (HC.out.tr fC.out)) (Zl.out.fresh (HC.out.tr fC.out))).mono ?_;rintro e w7 ⟨rfl,hc7⟩;rw[qO.out];have oT:=lh (fC.out.tr hc7);have Ew:=lh (R6.out.aL hc7 (by simp));clear hc7 x0 x1 y0 y1 bs;obtain⟨v6o,v6c,rfl⟩:=R6.out.shape;obtain⟨n6,Ba⟩:∃ n6,((d:Int) :: L.take j++[(z:Int)]).length=n6:=⟨_,rfl⟩;have HN6:=lh (show n6=j+2 by rw[<-Ba];simp;omega);rw[Ba] at Ew ⊢;clear Ba;go_wp2;go_roundw;case rel=>exact⟨j+1,by omega,by rw[uH.out];exact Ew.out,by rw[sm.out];simp,by rw[afU.out],oT.out⟩
       case measure=>have:=HN6.out;simp[sliceLen];omega
     have e:j=L.length:=by omega
     subst e;have jw:(L++[(d:Int)]).getD L.length 0=(d:Int):=by simp[Qa]
     rw[jw];rw[List.take_length] at bA ⊢;have XK:=lh (show (L.all λx=>decide ((d:Int)<x))=Plain.rG g p aa d from HMA.out.symm);have b1:((d:Int) != (d:Int))=false:=by simp
     have ji:=lh (HC.out.tr xS.out);have Py:=lh (HN.out.aL xS.out (by simp) (by simp));have HBW:=lh ji.out.size;have HNK:=lh (λk b (hk:k<ys.length) (hb:(ys.getD k undef).ownBlock=some b)=>(HN.out.kind hk hb).2.1);have HRT:=lh (λj (hj:j∈aC (Qk lo ((d:Int) :: L).length lc))=>(show wi.heap.size<=j by rw[bA.out.aC] at hj;exact (bA.out.low j hj).1));have tJ:=lh (bA.out.base (show w1.heap.size<=wi.heap.size from HC.out.size));have hGl:G.length<1000000000:=by omega
     clear jw pr;cases hb:L.all λx=>decide ((d:Int)<x) with
     | true =>
      rw[hb] at XK;have ZK:=lh (Si.out.trans (by rw[<-XK.out,if_pos rfl]));clear hb;go_wp2_with (at_builtin;refine K8 rfl _ _ rfl (T:=wi.heap.size) (ov:=.slice oo _ oc) rfl rfl Py.out HBW.out tJ.out HRT.out HNK.out hGl rfl ?_;intro v6 w6 r6 c6;have R6:=lh r6;have C6:=lh c6;clear r6 c6);go_roundw;case rel=>exact⟨i+1,_,by omega,by go_num,by rw[ZK.out];exact R6.out,ji.out.trans C6.out (λj hj=>Qi (Py.out.out.lt j (by simpa using hj)).1)⟩
      case measure=>simp[intOf];omega
     | false =>
      rw[hb] at XK;have ZK:=lh (Si.out.trans (by rw[<-XK.out,if_neg (by simp),Qh]));clear hb;go_wp2;go_roundw;case rel=>exact⟨i+1,_,by omega,by go_num,by rw[ZK.out];exact Py.out,ji.out⟩
      case measure=>simp[intOf];omega
   have e:i=2*p.e.length:=by omega
   subst e;have HW2:Plain.cK aa p.v++Plain.dL g p aa (2*p.e.length)=Plain.bZ g p aa:=by rw[<-DY.out];exact HWK.out
   rw[HW2] at HN ⊢;clear HW2;have gU:=lh (aY.out.tr HC.out);have EB:=lh (HN.out.base HB1.out);obtain⟨rn,Bw⟩:∃ rn,(Plain.bZ g p aa).length=rn:=⟨_,rfl⟩;have XL:=lh Bw;rw[Bw] at EB ⊢;clear Bw;go_wp2;go_ret;exact⟨_,_,rfl,by rw[XL.out];exact EB.out,gU.out⟩
