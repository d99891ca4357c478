/- block.target, finder.visit: contracts. Conditions: what each theorem says. -/
import Derived.Test.YtoiflofhcmjpoaaGreatF9Dfs4
set_option maxRecDepth 100000
set_option maxHeartbeats 8000000
open Go.Act renaming put→Qa
open Bool renaming eq_false_iff→Qb
open List renaming length_append→Qc,length_cons→Qd,length_nil→Qe
open Nat renaming zero_le→Qf
-- READS ONLY
namespace Go.Proofs.YtoiflofhcmjpoaaGreat
open Plain
open Go.RowKit Go.Maps
variable {n x y:Int}
theorem Gz (v:Value) (g:Gr) (d:Nat) (w:World) (hd:d / 2<g.e.length) (_hm:g.e.length<4294967296) (h:cA w v g) :
  Calls Tryz.prog 171 #[v,.int .i64 d] w λe w'=>e=.returned (.int .i64 (g.head d))/\ai [] w w':=by
 obtain⟨eo,cap,rfl,-,-,-,aS⟩:=h;obtain⟨b,off,rfl,fs,dD⟩:=aS (d / 2) hd;have aY:=lh ((ai.refl [] w).alloc (.cells #[.int .i64 g.n,.slice (some ⟨b,off,none⟩) g.e.length cap] 24));obtain⟨e,he⟩:∃ e,d / 2=e:=⟨_,rfl⟩;rw[he] at hd fs dD;have c0:=λo=>fO fs o;have c1:=λo=>fO dD o;clear aS fs dD;rcases (show d=2*e\/d=2*e+1 by omega) with rfl | rfl
 ·obtain⟨q1,q2⟩:=pw e
  have HE:=lh (kO g e).2;rw[HE.out];clear he;generalize ((2*e:Nat):Int)=dd at *;generalize (g.ends e).1=x at *;generalize (g.ends e).2=y at *;go_enter Tryz.func171,Tryz.ntmps171;go_wp2;go_ret;exact⟨rfl,aY.out⟩
 obtain⟨q1,q2⟩:=tN e;have HE:=lh (mS g e).2;rw[HE.out];clear he;generalize ((2*e+1:Nat):Int)=dd at *;generalize (g.ends e).1=x at *;generalize (g.ends e).2=y at *;go_enter Tryz.func171,Tryz.ntmps171;go_wp2;go_ret;exact⟨rfl,aY.out⟩
theorem cA.aL {w w':World} {ge:Value} {g:Gr} {own:List Nat} (h:cA w (.agg #[.int .i64 n,ge]) g) (hc:ai own w w') (hn:0<g.e.length->∀ b n c,ge=.slice (some b) n c->b.block ∉ own):cA w' (.agg #[.int .i64 n,ge]) g:=by
 obtain⟨eo,cap,e,h1,h2,h3,h4⟩:=h;simp only[Value.agg.injEq,Array.mk.injEq,List.cons.injEq,Value.int.injEq,true_and,and_true] at e;obtain⟨rfl,rfl⟩:=e;refine⟨eo,cap,rfl,h1,h2,h3,λi hi=>?_⟩;obtain⟨b,off,rfl,e1,e2⟩:=h4 i hi;have hb:=hn (Nat.lt_of_le_of_lt (Qf _) hi) _ _ _ rfl;exact⟨b,off,rfl,hc.cell e1 hb,hc.cell e2 hb⟩
structure FK.Has (k:FK) (g:Gr) (p:Pt):Prop where
 n:g.n=k.n
 sn:k.n<=100000
 se:g.e.length<=100000
 he:∀ e∈p.e,e<g.e.length
 gr:cA k.w0 (.agg #[.int .i64 g.n,k.gE]) g
 gro:0<g.e.length->∀ b n c,k.gE=.slice (some b) n c->b.block ∉ k.own
 dv:∃ (db c:Nat) (rv:Nat->Value),k.dv=.slice (some ⟨db,0,none⟩) k.n c/\db ∉ k.own/\∀ v,v<k.n->k.w0.cell? ⟨db,v,none⟩=some (rv v)/\aI k.w0 (rv v) (aE g p v)/\∀ b n c,rv v=.slice (some b) n c->b.block ∉ k.own
theorem LW (h1:bF x) (h2:bF y):bF (min x y):=by
 by_cases h:x<=y
 ·rwa[Int.min_eq_left h]
 rwa[Int.min_eq_right (by omega)]
theorem Lu (w:World) (o:Obj):(w.alloc o).heap[w.heap.size]?=some o:=by
 unfold World.alloc;exact Array.getElem?_push_size
theorem IM (w:World) {B:Nat} (hB:B<=w.heap.size) (hx:bF x):aw (w.alloc (.cells #[.int .i64 x] 3)) B (.slice (some ⟨w.heap.size,0,none⟩) 1 1) [x] :=
 ⟨⟨rfl,Or.inr ⟨w.heap.size,1,#[.int .i64 x],rfl,hB,Lu w _,Nat.le_refl _,by unfold maxLen;decide,rfl,rfl⟩⟩,by simpa using hx,by simp⟩
def acO (g:Gr) (p:Pt) (k:FK) (N:Nat):Prop:=∀ (s:dW) (A:List Int) (v:Nat) (via:Int) (r:Nat) (w:World),xD g p s A v via->C' p s<=N->Fin k g p w s r ->
  Calls Tryz.prog 123 #[.pointer (some ⟨k.pb,0,none⟩),.int .i64 v,.int .i64 via] w λx w'=>x=.returned (.tuple #[])/\Fin k g p w' (visit g p N v via s) r
theorem MK (k:FK) (g:Gr) (p:Pt) (hk:k.Ok) (hh:k.Has g p) (hp:aD g p) (N:Nat) (ih:acO g p k N):acO g p k (N+1):=by
 intro s A v via r w hE hu Dt;have HE:=lh hE;have HP:=lh hp;have HIH:=lh ih;have HK:=lh hk;have HH:=lh hh;have HU:=lh hu;obtain⟨ev,m,F,hf,rX,mD⟩:=Dt;have qw:=hE.cd.et;have dk:=NY hp hE.vV hE.vn qw;have E9:v<k.n:=by
  have:=(hp.vr v hE.vV).2;rw[hh.n] at this;omega
 obtain⟨db,dc,rv,Ue,lU,Pj⟩:=hh.dv;obtain⟨fD,cD,sK⟩:=Pj v E9;obtain⟨D,hD⟩:∃ D,aE g p v=D:=⟨_,rfl⟩;rw[hD] at dk cD;have HD:=lh hD;have HF:=lh hf;obtain⟨-,-,-,-,-,c5,-,-⟩:=hf.eight;have f5:=hf.free 5;obtain⟨c,hc⟩:∃ c,s.et=c:=⟨_,rfl⟩;have HC:=lh hc;rw[hc] at c5 mD qw;have wc:IntKind.i64.wrap (c+1)=c+1:=IntWalk.i64_in _ (by omega);have Fu:=lh (hf.count hk (c+1));have HI1:=lh (show bF (c+1) from bF.mk (by omega) (by omega));have MI:=lh rX;have sY:=lh mD;have uu:=lh dk;clear hE hp ih hk hh hu hf rX mD dk Pj hD hc;go_enter Tryz.func123,Tryz.ntmps123;go_wp2_with fail;generalize w.setCell ⟨k.pb,5,none⟩ (.int .i64 (c+1))=wb at *;obtain⟨-,-,a2,a3,a4,a5,-,-⟩:=Fu.out.eight;rw[Ue] at a2;have fm:=Fu.out.met.free (by omega) v;have fl:=Fu.out.low.free (by omega) v;have cm:=Fu.out.met.cell E9;have cl:=Fu.out.low.cell E9;have Pf:(v:Int)<(k.n:Int):=by omega
 have bn:=Fu.out.ne;have aG:ai [k.mb] wb wb.drew:=(ai.refl [k.mb] wb).drew;refine al (ai [k.mb] wb) [0,1,2,3,4,5,6,7,8,9,10,11,12,13,14,15,16,17,18,20] (Way.line [0,1,2,3,4,5,6,7,8,9,10,11,12,13,14,15,16,17,18,19,20,21] .done) (by kernel_rfl) (by kernel_rfl) ?_;simp only[Way.line]
 repeat (refine aj (v:=?_) rfl (by rfl) (by rfl) (λ_ _ _ h=>h) aG (λw' aB=>?_) ?_;rotate_left;(focus (have fE:=aB.cell a3 (by simpa using bn.1);have fV:=aB.cell a4 (by simpa using bn.1);have kD:=aB.cell a5 (by simpa using bn.1);clear aB;go_simp;try with_reducible rfl));simp only[Qa,Z1,Z2,Z3,Z4,Z5,Z6])
 refine aq rfl (by rfl) (by rfl) (λK hK=>?_);go_simp;have bH:ai [k.mb] wb (wb.setCell ⟨k.mb,v,none⟩ (.int .i64 (c+1))).drew:=((ai.refl [k.mb] wb).setCell (p:=⟨k.mb,v,none⟩) (Or.inl (by simp)) (.int .i64 (c+1))).drew;have Vb:=lh (Fu.out.ZN HK.out E9 HI1.out);refine hK.out _ _ (λ_=>bH) ?_;clear hK K aG;try simp only[Qa,Z1,Z2,Z3,Z4,Z5,Z6]
 generalize wb.setCell ⟨k.mb,v,none⟩ (.int .i64 (c+1))=wm at *
 repeat (refine aj (v:=?_) rfl (by rfl) (by rfl) (λ_ _ _ h=>h) bH (λw' aB=>?_) ?_;rotate_left;(focus (have fE:=aB.cell a3 (by simpa using bn.1);have fV:=aB.cell a4 (by simpa using bn.1);have kD:=aB.cell a5 (by simpa using bn.1);clear aB;go_simp;try with_reducible rfl));simp only[Qa,Z1,Z2,Z3,Z4,Z5,Z6])
 have fl2:=Vb.out.low.free (by omega) v;have cl2:=Vb.out.low.cell E9;refine aq rfl (by rfl) (by rfl) (λK hK=>?_);go_simp;have Eu:=lh (Vb.out.KH HK.out E9 HI1.out);refine hK.out _ _ (λh=>absurd h (Qb.1 (by kernel_rfl))) ?_;clear hK K bH;try simp only[Qa,Z1,Z2,Z3,Z4,Z5,Z6]
 refine ar ?_;generalize wm.setCell ⟨k.lb,v,none⟩ (.int .i64 (c+1))=wl at *;have Zm:=lh (show dy k g wl.drew (s.enter v) ev m F by
  have:=Eu.out.fresh (ai.refl [] wl).drew;unfold dW.enter;rw[HC.out];exact this)
 clear Eu Vb Fu a3 a4 a5 fm fl cm cl fl2 cl2 c5 f5;generalize wl.drew=w1 at *;obtain⟨-,-,a2,-,-,-,-,-⟩:=Zm.out.eight;rw[Ue] at a2;have XJ:w1.cell? ⟨db,v,none⟩=some (rv v):=Zm.out.aL.cell fD (by simpa using lU);have hID:aI w1 (rv v) D:=cD.aL Zm.out.aL sK;have YE:=lh (show ∀ wx,ai k.own k.w0 wx->aI wx (rv v) D from λwx hx=>cD.aL hx sK);obtain⟨ao,ac,e,hI,hDm,-⟩:=hID;rw[e] at XJ YE;have HI:=lh hI;clear fD cD sK hI e;go_wp2_with fail;have aeR:=lh (show Fin k g p w1 (s.enter v) (r+D.length) from⟨ev,m,F,Zm.out,by
  have h1:=MI.out;have h2:=uu.out;show m+s.ed.length+yq g p (s.enter v)+(r+D.length)<=100000;omega,by
  have h1:=sY.out;have h2:=uu.out;show s.et+1+yq g p (s.enter v)<=100000;rw[HC.out];omega⟩)
 have CQ:=lh (show cF g p s (s.enter v) A v via [] from cF.start HP.out HE.out);clear Zm MI sY uu HI1 a2 XJ qw;go_loopw [7,8,9,45,57,68,72,134] (λ_ _ _ iv _ _ _ _ wr=>∃ j:Nat,j<=D.length/\iv=.int .i64 j/\∃ t,t=(D.take j).foldl (fS (visit g p N) g v via) (s.enter v)/\Fin k g p wr t (r+(D.length - j))/\cF g p s t A v via (D.take j)) (λ_ _ _ iv _ _ _ _ _=>((D.length:Int) - intOf iv).toNat);case atStart=>exact⟨0,Qf _,rfl,_,rfl,by rw[Nat.sub_zero];exact aeR.out,CQ.out⟩
 case round =>
  obtain⟨j,hj,rfl,t,ht,hft,hsn⟩:=hrel;clear aeR CQ;have HT:=lh ht;have CQ:=lh hsn;have yn:=lh hft;clear ht hsn;by_cases h0:j=D.length
  ·subst h0
   have b0:decide ((D.length:Int)<(D.length:Int))=false:=decide_eq_false (by omega);clear hft hj;go_wp2;refine bodyPost_end (v:=.tuple #[]) (by simp[results,Tryz.results123,go_sem]) rfl ?_;refine⟨rfl,?_⟩;have h1:=yn.out;rw[HT.out,List.take_length,Nat.sub_self] at h1;unfold visit;rw[HD.out];exact h1
  have pr:j<D.length:=by omega
  obtain⟨ev1,m1,F1,Vu,ah8,I5⟩:=hft;have Pp:=lh Vu;have aiE:=lh (YE.out wr Vu.aL);obtain⟨bb,eO,rfl,Lo⟩:=aiE.out.cellAt pr;have uN:D.getD j 0∈D:=aQ pr;obtain⟨d,hd⟩:∃ d,D.getD j 0=d:=⟨_,rfl⟩;rw[hd] at uN Lo;have acb:d∈aE g p v:=by rw[HD.out];exact uN
  obtain⟨xA,Ms⟩:=aX.1 acb;have lZ:=au.1 xA;have Jw:=HP.out.er _ lZ;have aW:=HH.out.he _ lZ;obtain⟨dn,rfl⟩:∃ dn:Nat,d=dn:=⟨d.toNat,by omega⟩;obtain⟨en,lJ⟩:∃ en,dn / 2=en:=⟨_,rfl⟩;have Je:((dn:Int) / 2)=(en:Int):=by omega
  rw[Je] at lZ aW;have Rv:dn / 2<g.e.length:=by omega
  have hq:Int.tdiv (dn:Int) 2=(en:Int):=by rw[Int.tdiv_eq_ediv_of_nonneg (by omega)];omega
  have hxv:=(HP.out.aP xA).2;have hxr:=HP.out.vr _ hxv;obtain⟨x,hx⟩:∃ x:Nat,g.head (dn:Int)=x:=⟨(g.head dn).toNat,by omega⟩;rw[hx] at hxv hxr;have hxn:x<k.n:=by have:=hxr.2;rw[HH.out.n] at this;omega
  have HX:=lh hx;have AN:=lh Je;have Ct:(dn:Int) ∉ D.take j:=λq=>by
   have gp:D.Nodup:=by rw[<-HD.out];exact dZ HP.out.en v
   obtain⟨i,I7,sS⟩:=List.mem_iff_getElem.1 q;rw[List.getElem_take] at sS;rw[List.length_take] at I7;have h3:D[j]=(dn:Int):=by rw[<-hd];simp[List.getD,pr]
   exact (List.pairwise_iff_getElem.1 gp i j (by omega) pr (by omega)) (by rw[sS,h3])
  have AD:=lh (CQ.out.step HP.out HE.out HU.out acb Ct);have hts:D.take (j+1)=D.take j++[(dn:Int)]:=by
   rw[List.take_succ_eq_append_getElem pr];congr 2;rw[<-hd];simp[List.getD,pr]
  have Wu:=lh hts;have Ek:=lh (show (D.take (j+1)).foldl (fS (visit g p N) g v via) (s.enter v)=fS (visit g p N) g v via t dn by rw[hts,List.foldl_append,<-HT.out];rfl);have nC:(j:Int)<(D.length:Int):=by omega
  have I0:=lh (show ∀ wx,ai k.own k.w0 wx->cA wx (.agg #[.int .i64 g.n,k.gE]) g from λwx hc=>HH.out.gr.aL hc HH.out.gro);obtain⟨a0,a1,-,-,-,-,-,-⟩:=Vu.eight;have OE:=lh xA;have HDT:=lh Ms;clear Vu hd uN acb xA Ms hts hx lJ Ct;go_wp2_with fail;refine (Gz _ g dn wr Rv (by have:=HH.out.se;omega) (I0.out wr Pp.out.aL)).mono ?_;rintro _ w2 ⟨rfl,bI⟩;rw[HX.out];have q9:=lh (Pp.out.fresh bI);obtain⟨-,-,-,a3,a4,-,a6,a7⟩:=q9.out.eight;have IE:=lh (show bF (en:Int) from bF.mk (by omega) (by have:=HH.out.se;omega));clear Pp yn aiE I0 Lo a0 a1 bI hq Rv;have wq:wrap64 (en:Int)=(en:Int):=IntWalk.wrap64_in _ (by have:=HH.out.se;omega);by_cases c1:x=v
  ·have b1:((x:Int)==(v:Int))=true:=by simp[c1]
   have xC:fS (visit g p N) g v via t dn=t.lay en:=by
    unfold fS;rw[HX.out,if_pos (by rw[c1]),AN.out]
   have HA:=lh (q9.out.fresh ((ai.refl [] w2).alloc (.cells #[.int .i64 (en:Int)] 3)));have HRS:=lh (IM w2 (B:=k.w0.heap.size) q9.out.aL.size IE.out);have HLT:=lh (show ∀ b,ev1.ownBlock=some b->b<w2.heap.size from λb hb=>(q9.out.ed.low b (by simp[hb])).2);clear nC h0;go_wp2_with (first
    | (at_mapUpdate;refine OR rfl _ _ _ rfl HA.out.map (by unfold maxLen;omega) rfl IE.out rfl rfl (yW.some _ _ _ _) ?_;intro w6 m6 c6;have M6:=lh m6;have C6:=lh c6;clear m6 c6)
    | fail)
   go_roundw;case rel =>
    have h1:=HA.out.put HK.out (l:=[(en:Int)]) HRS.out (λb hb q=>by
     have e1:w2.heap.size=b:=by simpa[Value.ownBlock] using hb
     have:=HLT.out b q;omega) C6.out M6.out
    refine⟨j+1,by omega,by go_num,t.lay en,?_,⟨_,_,_,h1,?_,I5⟩,?_⟩
    ·rw[Ek.out,xC]
    ·show m1+1+t.ed.length+yq g p t+(r+(D.length - (j+1)))<=100000
     omega
    rw[Wu.out,<-xC];exact AD.out
   case measure=>simp[intOf];omega
  have b1:((x:Int)==(v:Int))=false:=by simp;omega
  by_cases c2:(en:Int)=via
  ·have b2:((en:Int)==via)=true:=by simp[c2]
   have xC:fS (visit g p N) g v via t dn=t:=by
    unfold fS;rw[HX.out,if_neg (by omega),AN.out,if_pos c2]
   clear nC h0 c2;go_wp2;go_roundw;case rel =>
    refine⟨j+1,by omega,by go_num,t,by rw[Ek.out,xC],⟨_,_,_,q9.out,by omega,I5⟩,?_⟩;have h1:=AD.out;rw[xC] at h1;rw[Wu.out];exact h1
   case measure=>simp[intOf];omega
  have b2:((en:Int)==via)=false:=by simp[c2]
  have KN:=q9.out.ne;have cmx:=q9.out.met.cell hxn;have hxi:(x:Int)<(k.n:Int):=by omega
  obtain⟨tm,Aw⟩:∃ tm,t.met (x:Int)=tm:=⟨_,rfl⟩;have Ow:=lh Aw;rw[Aw] at cmx;clear Aw;by_cases c3:tm=0
  ·have b3:(tm==0)=true:=by simp[c3]
   have JQ:=lh (show m1+(t.push en).ed.length+yq g p (t.push en)+(r+(D.length - (j+1)))<=100000 by
    show m1+(t.ed++[(en:Int)]).length+yq g p t+(r+(D.length - (j+1)))<=100000;rw[Qc];simp only[Qd,Qe];omega)
   have Zx:=lh (show ¬ (x:Int)=(v:Int) by omega);have De:=q9.out.low.free (by omega) v;have Ja:=lh (show fS (visit g p N) g v via t dn=(visit g p N x en (t.push en)).back v x en from by
    unfold fS;rw[HX.out,if_neg Zx.out,AN.out,if_neg c2,if_pos (by rw[Ow.out];exact c3)])
   have PU:=lh (show t.met (g.head dn)=0 by rw[HX.out,Ow.out];exact c3);have HEX:=lh (CQ.out.ent HP.out HE.out OE.out HDT.out PU.out);have HUX:=lh (CQ.out.less (d:=(dn:Int) / 2) HE.out HU.out);rw[HX.out,AN.out] at HEX;rw[AN.out] at HUX;have HSX:=lh (sO HP.out N _ _ _ _ HEX.out HUX.out);have Yo:=lh (show 0<k.n by omega);clear nC h0 De;have q6:=q9.out.free 6;obtain⟨eo1,ec1,rfl⟩:=q9.out.ed.shape;have uF:=lh (show k.pb ∉ aC (.slice eo1 t.ed.length ec1) from λq=>by
    rw[q9.out.ed.aC] at q;have:=(q9.out.ed.low _ q).1;have:=HK.out.lt k.pb (by simp[FK.own]);omega)
   go_wp2_with (first
    | (at_builtin;refine eN rfl _ _ rfl (B:=k.w0.heap.size) (v:=.slice eo1 _ ec1) rfl rfl q9.out.ed IE.out q9.out.aL.size (by omega) rfl ?_;intro v6 w6 r6 c6 f6;obtain⟨o6,n6,rfl⟩:=r6.shape;have R6:=lh r6;have C6:=lh c6;have F6:=lh f6;have d6:=c6.cell a6 uF.out;have g6:=c6.frozen a6 q6 uF.out;clear r6 c6 f6)
    | fail)
   have Oy:=lh (q9.out.push HK.out R6.out C6.out F6.out);clear d6 g6 a3 a4 a6 a7 q6 R6 C6 F6 uF;rw[show (t.ed++[(en:Int)]).length=t.ed.length+1 by simp] at Oy;generalize w6.setCell ⟨k.pb,6,none⟩ (.slice o6 (t.ed.length+1) n6)=w7 at *;refine (HIH.out (t.push en) (A++[(v:Int)]) x en (r+(D.length - (j+1))) w7 HEX.out HUX.out ⟨_,_,_,Oy.out,?_,I5⟩).mono ?_
   ·exact JQ.out
   rintro _ w3 ⟨rfl,hv3⟩;obtain⟨t3,OQ⟩:∃ t3,visit g p N x en (t.push en)=t3:=⟨_,rfl⟩;rw[OQ] at HSX hv3 Ja;have Rv:(en:Int)∈t3.ed:=by
    obtain⟨R,N',e1,-⟩:=HSX.out.yY;rw[e1];show (en:Int)∈(t.ed++[(en:Int)])++R;simp
   have amq:=lh Rv;clear Oy HEX HUX HSX OQ Rv PU ah8 I5 q9 KN cmx Ow HIH YE;obtain⟨ev3,m3,F3,Yj,ah0,af7⟩:=hv3;have HF3:=lh Yj;obtain⟨-,-,-,z3,z4,-,-,-⟩:=Yj.eight;have lv:=Yj.low.cell E9;have lx:=Yj.low.cell hxn;have lf:=Yj.low.free Yo.out v;have I7:=Yj.low.i64 E9;have sS:=Yj.low.i64 hxn;obtain⟨y1,Ko⟩:∃ y1,t3.low (v:Int)=y1:=⟨_,rfl⟩;obtain⟨y2,LP⟩:∃ y2,t3.low (x:Int)=y2:=⟨_,rfl⟩;rw[Ko] at lv I7;rw[LP] at lx sS;have Vi:=lh (LW I7 sS);clear I7 sS;have HY1:=lh Ko;have HY2:=lh LP;clear Yj Ko LP;go_wp2_with fail;have aG:ai [] w3 w3.drew:=(ai.refl [] w3).drew;refine al (ai [] w3) [0,1,2,3,4,5,6,7,8,9,10,11,12,13,14,15,16,17,18,19,20] (Way.line [0,1,2,3,4,5,6,7,8,9,10,11,12,13,14,15,16,17,18,19,20,21] .done) (by kernel_rfl) (by kernel_rfl) ?_;simp only[Way.line]
   repeat (refine aj (v:=?_) rfl (by rfl) (by rfl) (λ_ _ _ h=>h) aG (λw' aB=>?_) ?_;rotate_left;(focus (have fE:=aB.c z4;have fV:=aB.c lv;have kD:=aB.c lx;clear aB;go_simp;try with_reducible rfl));simp only[Qa,Z1,Z2,Z3,Z4,Z5,Z6])
   refine aq rfl (by rfl) (by rfl) (λK hK=>?_);go_simp;refine hK.out _ _ (λh=>absurd h (Qb.1 (by kernel_rfl))) ?_;clear hK K;try simp only[Qa,Z1,Z2,Z3,Z4,Z5,Z6]
   refine ar ?_;have P0:=lh (show dy k g (w3.setCell ⟨k.lb,v,none⟩ (.int .i64 (min y1 y2))).drew (t3.lower v y2) ev3 m3 F3 by
    have:=(HF3.out.KH HK.out E9 Vi.out).fresh (ai.refl [] _).drew;unfold dW.lower;rw[HY1.out];exact this)
   clear HF3 z3 z4 lv lx lf aG;generalize (w3.setCell ⟨k.lb,v,none⟩ (.int .i64 (min y1 y2))).drew=w4 at *;obtain⟨-,-,-,z3,z4,-,-,-⟩:=P0.out.eight;have lx:=P0.out.low.cell hxn;have mv:=P0.out.met.cell E9;rw[show (t3.lower v y2).low (x:Int)=y2 from (pJ Zx.out).trans HY2.out] at lx;obtain⟨y3,hy3⟩:∃ y3,(t3.lower v y2).met (v:Int)=y3:=⟨_,rfl⟩;rw[hy3] at mv;have HY3:=lh (show t3.met (v:Int)=y3 from hy3);clear hy3;go_wp2_with fail;have aG:ai [] w4 w4.drew:=(ai.refl [] w4).drew;refine al (ai [] w4) [0,1,2,3,4,5,6,7,8,9,10,11,12,13,14] (Way.line [0,1,2,3,4,5,6,7,8,9,10,11,12,13,14] .done) (by kernel_rfl) (by kernel_rfl) ?_;simp only[Way.line]
   repeat (refine aj (v:=?_) rfl (by rfl) (by rfl) (λ_ _ _ h=>h) aG (λw' aB=>?_) ?_;rotate_left;(focus (have fE:=aB.c z3;have fV:=aB.c z4;have kD:=aB.c lx;have tq:=aB.c mv;clear aB;go_simp;try with_reducible rfl));simp only[Qa,Z1,Z2,Z3,Z4,Z5,Z6])
   refine ar ?_;have HF5:=lh (P0.out.fresh aG);clear P0 aG z3 z4 lx mv;generalize w4.drew=w5 at *;have Bb:=lh (show m3+(t3.lower v y2).ed.length+yq g p (t3.lower v y2)+(r+(D.length - (j+1)))<=100000 from ah0);have fG:=lh (show (t3.lower v y2).et+yq g p (t3.lower v y2)<=100000 from af7);clear ah0 af7;by_cases c5:y3<=y2
   ·have b5:decide (y2 ≥ y3)=true:=decide_eq_true c5
    have HBK:=lh (show (t3).back v x en=(t3.lower v y2).take en by
     unfold dW.back;rw[HY2.out,HY3.out,if_pos c5])
    have b6:decide (y3<=y2)=true:=decide_eq_true c5;have b7:¬ y2<y3:=Int.not_lt.2 c5;go_wp2_with fail;refine (Oa k g p HK.out (t3.lower v y2) en (r+(D.length - (j+1))) w5 amq.out ⟨_,_,_,HF5.out,Bb.out,fG.out⟩).mono ?_;rintro _ w6 ⟨rfl,hv6⟩;go_wp2;go_roundw;case rel =>
     refine⟨j+1,by omega,by go_num,_,rfl,?_,?_⟩
     ·rw[Ek.out,Ja.out,HBK.out]
      exact hv6
     rw[Ek.out,Wu.out];exact AD.out
    case measure=>simp[intOf];omega
   have b5:decide (y2 ≥ y3)=false:=decide_eq_false c5;have HBK:=lh (show (t3).back v x en=t3.lower v y2 by
    unfold dW.back;rw[HY2.out,HY3.out,if_neg c5])
   have b6:decide (y3<=y2)=false:=decide_eq_false c5;have b7:y2<y3:=Int.not_le.1 c5;go_wp2;go_roundw;case rel =>
    refine⟨j+1,by omega,by go_num,_,rfl,?_,?_⟩
    ·rw[Ek.out,Ja.out,HBK.out]
     exact⟨_,_,_,HF5.out,Bb.out,fG.out⟩
    rw[Ek.out,Wu.out];exact AD.out
   case measure=>simp[intOf];omega
  have b3:(tm==0)=false:=by simp[c3]
  have mv:=q9.out.met.cell E9;obtain⟨tv,htv⟩:∃ tv,t.met (v:Int)=tv:=⟨_,rfl⟩;have Iq:=lh htv;rw[htv] at mv;clear htv;have alS:=lh (show m1+t.ed.length+yq g p t+(r+(D.length - (j+1)))<=100000 by omega);have Zx:=lh (show ¬ (x:Int)=(v:Int) by omega);have Yo:=lh (show 0<k.n by omega);by_cases c4:tm<tv
  ·have b4:decide (tm<tv)=true:=decide_eq_true c4
   have JQ:=lh (show m1+(t.push en).ed.length+yq g p (t.push en)+(r+(D.length - (j+1)))<=100000 by
    show m1+(t.ed++[(en:Int)]).length+yq g p t+(r+(D.length - (j+1)))<=100000;rw[Qc];simp only[Qd,Qe];omega)
   have Ja:=lh (show fS (visit g p N) g v via t dn=(t.push en).lower v tm from by
    unfold fS;rw[HX.out,if_neg Zx.out,AN.out,if_neg c2,if_neg (by rw[Ow.out];exact c3),Ow.out,Iq.out,if_pos c4])
   have q6:=q9.out.free 6;obtain⟨eo1,ec1,rfl⟩:=q9.out.ed.shape;have uF:=lh (show k.pb ∉ aC (.slice eo1 t.ed.length ec1) from λq=>by
    rw[q9.out.ed.aC] at q;have:=(q9.out.ed.low _ q).1;have:=HK.out.lt k.pb (by simp[FK.own]);omega)
   have HL9:=lh (show t.ed.length<4294967290 by omega);clear nC h0;go_wp2_with fail;have aG:ai [] w2 w2.drew:=(ai.refl [] w2).drew;refine al (ai [] w2) [0,1,2,3,4,5,6,7,8,9,10,11,12,13,14,15] (Way.line [0,1,2,3,4,5,6,7,8,9,10,11,12,13,14,15] .done) (by kernel_rfl) (by kernel_rfl) ?_;simp only[Way.line]
   repeat (refine aj (v:=?_) rfl (by rfl) (by rfl) (λ_ _ _ h=>h) aG (λw' aB=>?_) ?_;rotate_left;(focus (have fE:=aB.c a3;have fV:=aB.c cmx;have kD:=aB.c mv;clear aB;go_simp;try with_reducible rfl));simp only[Qa,Z1,Z2,Z3,Z4,Z5,Z6])
   refine ar ?_;have a6:=aG.c a6;have q6:=aG.frozen a6 q6 (by simp);have HFR:=lh (q9.out.fresh aG);have HMV:=lh (aG.c mv);clear aG a3 a4 a7 cmx mv q9;generalize w2.drew=w3 at *;go_wp2_with (first
    | (at_builtin;refine eN rfl _ _ rfl (B:=k.w0.heap.size) (v:=.slice eo1 _ ec1) rfl rfl HFR.out.ed IE.out HFR.out.aL.size HL9.out rfl ?_;intro v6 w6 r6 c6 f6;obtain⟨o6,n6,rfl⟩:=r6.shape;have R6:=lh r6;have C6:=lh c6;have F6:=lh f6;have d6:=c6.cell a6 uF.out;have g6:=c6.frozen a6 q6 uF.out;clear r6 c6 f6)
    | fail)
   have Oy:=lh (HFR.out.push HK.out R6.out C6.out F6.out);clear d6 g6 a6 q6 R6 C6 F6 uF HFR;rw[show (t.ed++[(en:Int)]).length=t.ed.length+1 by simp] at Oy;generalize w6.setCell ⟨k.pb,6,none⟩ (.slice o6 (t.ed.length+1) n6)=w7 at *;obtain⟨-,-,-,z3,z4,-,-,-⟩:=Oy.out.eight;have lv:=Oy.out.low.cell E9;have mx:=Oy.out.met.cell hxn;have lf:=Oy.out.low.free Yo.out v;have I7:=Oy.out.low.i64 E9;have sS:=Oy.out.met.i64 hxn;have LP:(t.push en).met (x:Int)=tm:=Ow.out;rw[LP] at mx sS;obtain⟨y1,Ko⟩:∃ y1,(t.push en).low (v:Int)=y1:=⟨_,rfl⟩;rw[Ko] at lv I7;have HY1:=lh Ko;have Vi:=lh (LW I7 sS);clear I7 sS Ko LP;go_wp2_with fail;have aG:ai [] w7 w7.drew:=(ai.refl [] w7).drew;refine al (ai [] w7) [0,1,2,3,4,5,6,7,8,9,10,11,12,13,14,15,16,17,18,19,20] (Way.line [0,1,2,3,4,5,6,7,8,9,10,11,12,13,14,15,16,17,18,19,20,21] .done) (by kernel_rfl) (by kernel_rfl) ?_;simp only[Way.line]
   repeat (refine aj (v:=?_) rfl (by rfl) (by rfl) (λ_ _ _ h=>h) aG (λw' aB=>?_) ?_;rotate_left;(focus (have fE:=aB.c z3;have fV:=aB.c z4;have kD:=aB.c lv;have tq:=aB.c mx;clear aB;go_simp;try with_reducible rfl));simp only[Qa,Z1,Z2,Z3,Z4,Z5,Z6])
   refine aq rfl (by rfl) (by rfl) (λK hK=>?_);go_simp;refine hK.out _ _ (λh=>absurd h (Qb.1 (by kernel_rfl))) ?_;clear hK K;try simp only[Qa,Z1,Z2,Z3,Z4,Z5,Z6]
   refine ar ?_;have P0:=lh (show dy k g (w7.setCell ⟨k.lb,v,none⟩ (.int .i64 (min y1 tm))).drew ((t.push en).lower v tm) _ m1 F1 by
    have:=(Oy.out.KH HK.out E9 Vi.out).fresh (ai.refl [] _).drew;unfold dW.lower;rw[HY1.out];exact this)
   clear z3 z4 lv mx lf aG Oy;generalize (w7.setCell ⟨k.lb,v,none⟩ (.int .i64 (min y1 tm))).drew=w8 at *;have fG:=lh (show ((t.push en).lower v tm).et+yq g p ((t.push en).lower v tm)<=100000 from I5);have Bb:=lh (show m1+((t.push en).lower v tm).ed.length+yq g p ((t.push en).lower v tm)+(r+(D.length - (j+1)))<=100000 from JQ.out);go_wp2;go_roundw;case rel =>
    refine⟨j+1,by omega,by go_num,_,rfl,?_,?_⟩
    ·rw[Ek.out,Ja.out]
     exact⟨_,_,_,P0.out,Bb.out,fG.out⟩
    rw[Ek.out,Wu.out];exact AD.out
   case measure=>simp[intOf];omega
  have b4:decide (tm<tv)=false:=decide_eq_false c4;have Ja:=lh (show fS (visit g p N) g v via t dn=t from by
   unfold fS;rw[HX.out,if_neg Zx.out,AN.out,if_neg c2,if_neg (by rw[Ow.out];exact c3),Ow.out,Iq.out,if_neg c4])
  have HB4:=lh I5;clear nC h0 ah8 I5;go_wp2_with fail;have aG:ai [] w2 w2.drew:=(ai.refl [] w2).drew;refine al (ai [] w2) [0,1,2,3,4,5,6,7,8,9,10,11,12,13,14,15] (Way.line [0,1,2,3,4,5,6,7,8,9,10,11,12,13,14,15] .done) (by kernel_rfl) (by kernel_rfl) ?_;simp only[Way.line]
  repeat (refine aj (v:=?_) rfl (by rfl) (by rfl) (λ_ _ _ h=>h) aG (λw' aB=>?_) ?_;rotate_left;(focus (have fE:=aB.c a3;have fV:=aB.c cmx;have kD:=aB.c mv;clear aB;go_simp;try with_reducible rfl));simp only[Qa,Z1,Z2,Z3,Z4,Z5,Z6])
  refine ar ?_;have HFR:=lh (q9.out.fresh aG);clear aG a3 a4 a6 a7 cmx mv q9;generalize w2.drew=w3 at *;go_wp2;go_roundw;case rel =>
   refine⟨j+1,by omega,by go_num,_,rfl,?_,?_⟩
   ·rw[Ek.out,Ja.out]
    exact⟨_,_,_,HFR.out,alS.out,HB4.out⟩
   rw[Ek.out,Wu.out];exact AD.out
  case measure=>simp[intOf];omega
theorem Ah (k:FK) (g:Gr) (p:Pt) (hk:k.Ok) (hh:k.Has g p) (hp:aD g p):∀ N,acO g p k N
 | 0=>λs A v via r w hE hu _=>by
  have:0<C' p s:=List.length_pos_of_mem (List.mem_filter.2 ⟨hE.vV,decide_eq_true hE.vn⟩);omega
 | N+1=>MK k g p hk hh hp N (Ah k g p hk hh hp N)
