/- The regions of a drawing: determined; each walk is in just one. No program here. -/
import Derived.Test.YtoiflofhcmjpoaaGreatF9RefN
set_option maxRecDepth 100000
set_option maxHeartbeats 4000000
open Go.Value renaming slice→Qa
open List renaming length_append→Qb,mem_cons→Qd,mem_flatten→Qe,take_length→Qf
open Nat renaming le_refl→Qc,zero_le→Qh
open Go.Act renaming put→Qg
open Or renaming inr→Qi
namespace Go.Proofs.YtoiflofhcmjpoaaGreat
open Plain
namespace Plain
structure alI (g:Gr) (p:Pt) (aa same:List (List Int)):Prop where
 part:p.err g=0
 turns:aK g p aa
 flat:Flat g p aa
 walks:cN g p aa (bZ g p aa)
 two:∀ l∈same,2<=l.length
 nodup:same.flatten.Nodup
 keys:∀ x∈same.flatten,x∈(bZ g p aa).map (·.1)
 axr:∀ l∈same,l.Pairwise (·<·)
 many:same.flatten.length+1<=(roots g p).length+same.length\/(roots g p).length=0
noncomputable def V4 (g:Gr) (p:Pt) (aa same:List (List Int)):List (List Int):=same++Wx (bZ g p aa) same.flatten
structure acE (g:Gr) (p:Pt) (aa same ll:List (List Int)):Prop where
 perm:ll.Perm (V4 g p aa same)
 order:ll.Pairwise λa b=>a.getD 0 0<=b.getD 0 0
theorem Sf {ll:List (List Int)} (hn:ll.flatten.Nodup) {l m:List Int} {x:Int} (hl:l∈ll) (hm:m∈ll) (h1:x∈l) (h2:x∈m):l=m:=by
 induction ll with
 | nil=>simp at hl
 | cons a ll ih =>
  rw[List.flatten_cons,List.nodup_append] at hn;rcases Qd.1 hl with q | q
  ·rcases Qd.1 hm with r | r
   ·rw[q,r]
   subst q;exact absurd rfl (hn.2.2 x h1 x (Qe.2 ⟨m,r,h2⟩))
  rcases Qd.1 hm with r | r
  ·subst r
   exact absurd rfl (hn.2.2 x h2 x (Qe.2 ⟨l,q,h1⟩))
  exact ih hn.2.1 q r
open Classical in
noncomputable def Nz (g:Gr) (p:Pt) (aa same:List (List Int)):List (List Int):=if h:∃ ll,acE g p aa same ll then Classical.choose h else []
def Ug (ll:List (List Int)) (key:Int):Option Nat:=ll.findIdx? λl=>decide (key∈l)
end Plain
open Go.RowKit Go.Maps
variable {w w':World} {B T:Nat} {ov v u r:Value} {ll:List (List Int)}
theorem ue (v:Value) (l:List Int) (x:Int) (w:World) (h:aI w v l) :
  Calls Tryz.prog 179 #[v,.int .i64 x] w λe w'=>e=.returned (.bool (decide (x∈l)))/\w'=w:=by
 obtain⟨ao,cap,rfl,-,hm,hc⟩:=h;cases l with
 | nil =>
  refine (Tryz.slices_Contains_int_empty ao cap x w).mono ?_;rintro e w' ⟨rfl,rfl⟩;exact⟨aM (by simp),rfl⟩
 | cons y r =>
  obtain⟨b,off,rfl,bI⟩:=hc (by simp);refine (Tryz.slices_Contains_int b off (y :: r).length cap (y :: r) x w (Qc _) hm bI).mono ?_;rintro e w' ⟨rfl,rfl⟩;exact⟨aM (by rw[Qf];simp),rfl⟩
theorem bt.read {vs:List Value} (h:bt w B ov vs ll) (hi:∀ l∈ll,(∀ x∈l,bF x)/\l.length<4294967296):fY w ov ll:=by
 have hlen:=h.len;have oK:∀ {v:Value} {n:Nat} {xs:List Value} {e:TypeId},w.ownsRow B e 1 v n xs->rE v:=by
  intro v n xs e ho;rcases ho.2 with ⟨rfl,_⟩ | ⟨g,cap,cur,rfl,-,-,hn,hc,-,-⟩
  ·exact⟨none,0,0,rfl,by decide,by decide⟩
  exact⟨_,_,_,rfl,hn,by unfold maxLen at hc;omega⟩
 rcases h.out.2 with ⟨rfl,h0⟩ | ⟨g,cap,cur,rfl,-,-,hn,hc,-,-⟩
 ·have:ll=[]:=List.length_eq_zero_iff.1 (by omega)
  subst this;exact⟨none,0,rfl,by decide,λi hi=>absurd hi (by simp)⟩
 refine⟨_,cap,by rw[hlen],by unfold maxLen at hc;omega,λi sS=>?_⟩;have hiv:i<vs.length:=by omega
 have aT:=h.rows i hiv;have aS:=h.out.cellAt i (by omega);have hm:ll.getD i []∈ll:=by simp[List.getD,sS]
 refine⟨g,0,vs.getD i undef,rfl,?_,oK aT,aw.ints (B:=B) ⟨aT,hi _ hm⟩⟩;rw[Nat.zero_add,aS];simp[List.getD,hiv]
namespace Plain
end Plain
namespace Plain
end Plain
theorem BI (v:Value) (l:List Int) (w:World) (hl:l.length<=1000000000) (h:aI w v l) :
  Calls Tryz.prog 53 #[v] w λe w'=>∃ v',e=.returned v'/\aw w' w.heap.size v' l/\ai [] w w':=by
 obtain⟨ao,cap,rfl,fx,hm,hc⟩:=h;cases l with
 | nil =>
  cases ao with
  | none =>
   refine (Tryz.slices_Clone_int_nil 0 cap w).mono ?_
   grind [da,ai.refl]
  | some ad =>
   refine (Tryz.slices_Clone_int_zero ad cap w).mono ?_;rintro e w' ⟨v',rfl,h1,-,h3⟩;exact⟨_,rfl,⟨h1,by simp,by simp⟩,ai.tE h3 (Qc _)⟩
 | cons y r =>
  obtain⟨b,off,rfl,bI⟩:=hc (by simp);refine (Tryz.slices_Clone_int b off (y :: r).length cap (y :: r) w (Qc _) (by omega) bI).mono ?_;rintro e w' ⟨v',rfl,h1,-,h3⟩;rw[Qf] at h1;exact⟨_,rfl,⟨h1,fx,by omega⟩,ai.tE h3 (Qc _)⟩
structure ajQ (w:World) (pb B T:Nat) (t s:List (List Int)):Prop where
 ex:∃ o1 v1 o2 v2,w.heap[pb]?=some (.cells #[o1,o2] 54 (0,0))/\bt w B o1 v1 t/\bt w B o2 v2 s/\(o1.ownBlock=none\/o1.ownBlock≠o2.ownBlock) /\
  (∀ k b,k<v1.length->(v1.getD k undef).ownBlock=some b->b<T)/\(∀ k b,k<v2.length->(v2.getD k undef).ownBlock=some b->b<T)
 small:∀ l∈t++s,(∀ x∈l,bF x)/\l.length<4294967296
theorem OC {vs:List Value} (h:bt w B ov vs ll):∀ k b,k<vs.length->(vs.getD k undef).ownBlock=some b->b<w.heap.size:=λk _b hk hb=>jR (h.rows k hk) hb
theorem VM {w0:World} {vs:List Value} {l:List Int} (h:bt w0 B ov vs ll) (hB:B<=w0.heap.size) (hv:aw w0 T v l) (hBT:B<=T) (hX:∀ k b,k<vs.length->(vs.getD k undef).ownBlock=some b->b<T) (hn:vs.length<68719476736)
  (hw:w=w0.alloc (.cells #[v] 25)\/w=(w0.alloc (.cells #[v] 25)).drew) (ty:TypeId) :
  ∃ g cap w',(Builtin.append_ #[48,48] ty #[ov,.slice (some ⟨w0.heap.size,0,none⟩) 1 1]).run Tryz.prog w=.ok (.slice (some ⟨g,0,none⟩) (vs.length+1) cap) w' /\
   bt w' B (.slice (some ⟨g,0,none⟩) (vs.length+1) cap) (vs++[v]) (ll++[l])/\ai ov.ownBlock.toList w0 w'/\(ov.ownBlock=some g\/w0.heap.size<=g):=by
 obtain⟨va,vc,rfl⟩:=hv.shape;obtain⟨g,cap,w',hr,r2,r3,r4⟩:=qy qq h.out hB (cs:=#[.slice va l.length vc]) rfl (zi _ _ _) hn hw ty;exact⟨g,cap,w',hr,h.add (kK hv.1 hBT) (λk b hk hb e=>by
  have h1:=hX k b hk hb;have h2:=(hv.low b (by grind)).1;omega) r2 r3,r3,r4⟩
theorem mZ {o:Oper} {a:Act} {K:Act->World->Prop} {Q:Exit->Act->World->Prop} (s x:Operand) (t:TypeId) (ho:o.op=.call { callee:=.builtin .append,args:=#[s,x],argTypes:=#[t,t] }) (hs:a.eval s=v) (hx:a.eval x=u)
  (hr:(Builtin.append_ #[t,t] o.type #[v,u]).run Tryz.prog w=.ok r w') (hK:K (a.put o.dst r) w'):o.wp Tryz.prog a w K Q:=by
 unfold Oper.wp execOp;simp only[ho,resolve,invoke,builtin,Sem.run_bind,Sem.run_pure,Result.andThen_ok,List.map_toArray,List.map_cons,List.map_nil,hs,hx,hr];exact hK
namespace Plain
end Plain
end Go.Proofs.YtoiflofhcmjpoaaGreat
-- READS ONLY
namespace Go.Proofs.YtoiflofhcmjpoaaGreat
open Plain
open Go.RowKit Go.Maps
noncomputable def VA (g:Gr) (p:Pt) (R:List Int):List Cell:=IP (comp g p) (λr=>(p.sub g (comp g p r)).e) R
theorem NX (g:Gr) (p:Pt) (R:List Int) (r:Int):VA g p (R++[r])=VA g p R++[.row (comp g p r),.row (p.sub g (comp g p r)).e]:=by simp[VA,IP]
theorem SG {g:Gr} {p:Pt} {v:Int} {M:List Int} (hp:aD g p) (hM:∀ u,u∈M↔bS g p (-1) v u):(p.sub g M).v=comp g p v/\(p.sub g M).e=(p.sub g (comp g p v)).e:=by
 have e:∀ u∈p.v,decide (u∈M)=decide (u∈comp g p v):=λu hu=>by
  grind [comp,eQ]
 refine⟨?_,List.filter_congr λx hx=>?_⟩
 ·show p.v.filter (λu=>decide (u∈M))=comp g p v
  grind [comp]
 have:=hp.ends x hx
 grind
theorem zo (vg vp:Value) (g:Gr) (p:Pt) (w:World) (hV:p.v.length<=1000) (hE:p.e.length<=1000000) (hr:p.err g=0) (hg:cA w vg g) (hp:dt w vp p) :
  Calls Tryz.prog 40 #[vg,vp] w λe w'=>∃ ov xs,e=.returned ov/\bN w' w.heap.size 27 2 ov (roots g p).length xs (IP (comp g p) (λr=>(p.sub g (comp g p r)).e) (roots g p))/\ai [] w w':=by
 have HR:=lh hr;have ni:=lh (Pt.ax hr);have IQ:=lh (bK (Pt.aF hr).2.1);have Si:=lh (Gr.aF (Pt.aF hr).1);have HG:=lh hg;have HP:=lh hp;obtain⟨eo,cap,rfl,hn,hm,fx,aS⟩:=hg;obtain⟨v1,v2,rfl,hv,he⟩:=hp;obtain⟨ao,ac,rfl,has,uJ,rQ⟩:=hv;obtain⟨bo,bc,rfl,xW,oJ,gh⟩:=he;have pU:=lh rQ;obtain⟨-,-,dD⟩:=iW w #[.int .i64 g.n,.slice eo g.e.length cap] #[.slice ao p.v.length ac,.slice bo p.e.length bc] 24 27;have aY:=lh dD;have bm:=lh (λw2 h=>CL w (g:=g) (p:=p) (eo:=eo) (ao:=ao) (bo:=bo) (cap:=cap) (ac:=ac) (bc:=bc) (w2:=w2) h);clear aS rQ gh fx xW hn dD;obtain⟨x0,x1,y0,y1,bs⟩:=bm.out _ (ai.refl _ _);go_enter Tryz.func40,Tryz.ntmps40;go_wp2;obtain⟨w1,gu⟩:∃ w1,((w.alloc (.cells #[.int .i64 g.n,.slice eo g.e.length cap] 24)).alloc (.cells #[.slice ao p.v.length ac,.slice bo p.e.length bc] 27))=w1:=⟨_,rfl⟩;rw[gu] at aY bm ⊢;clear gu x0 x1 y0 y1 bs;go_loopw [5,6,7] (λov av c wr=>∃ (k:Nat) (A:List Int) (xs:List Value),k<=p.v.length/\c=.int .i64 k/\bN wr w1.heap.size 27 2 ov (dg g p k).length xs (VA g p (dg g p k))/\aw wr w1.heap.size av A/\(∀ k b,k<xs.length->(xs.getD k undef).ownBlock=some b->b ∉ aC av)/\A.length<=k*1000/\Hid (nV g p k A)/\ai [] w1 wr) (λ_ _ c _=>p.v.length - (intOf c).toNat);case atStart=>exact⟨0,[],[],Qh _,rfl,by rw[uj];exact bN.nil _ _ _ _,JW _ _,by simp,by simp,lh (nV.start g p),ai.refl _ _⟩
 case round =>
  obtain⟨k,A,xs,hk,rfl,b9,aT,ND,Bz,oW,hc⟩:=hrel;have aaI:=lh ND;have fM:=lh b9;have bA:=lh aT;have HC:=lh hc;obtain⟨oo,oc,rfl⟩:=b9.shape;obtain⟨mo,mc,rfl⟩:=aT.shape;obtain⟨x0,x1,y0,y1,bs⟩:=bm.out wr hc;by_cases aW:k<p.v.length
  ·obtain⟨vb,A7,rfl,KX⟩:=pU.out (by grind)
   have ck:=hc.bO (aY.out.bO (KX k aW));have IV:=has (p.v.getD k 0) (aQ aW);have HVM:=lh (aQ aW);have PN:=lh (λh=>nV.skip ni.out oW.out aW h);have HAD:=lh (λh M hM=>nV.add (M:=M) ni.out IQ.out oW.out aW h hM);have MH:=lh (λh=>tH aW (nV.known ni.out oW.out aW h));have Tm:=lh (show p.v.getD k 0 ∉ A->dg g p (k+1)=dg g p k++[p.v.getD k 0] from λh=>tg aW (nV.root ni.out IQ.out oW.out aW h));have qX:=pB g p k;obtain⟨v,hve⟩:∃ v,p.v.getD k 0=v:=⟨_,rfl⟩;rw[hve] at ck IV HVM PN HAD MH Tm;obtain⟨rn,Bw⟩:∃ rn,(dg g p k).length=rn:=⟨_,rfl⟩;have XL:=lh Bw;obtain⟨RT,hRT⟩:∃ RT,dg g p k=RT:=⟨_,rfl⟩;have HRT:=lh hRT;rw[Bw] at qX;rw[Bw] at b9 fM ⊢;rw[hRT] at b9 fM Tm Bw;have an3:=lh Bw;clear hRT;have HVC:=lh (show ∀ wx,ai [] w1 wx->wx.cell? ⟨vb,A7+k,none⟩=some (.int .i64 v) from λwx hx=>by rw[<-hve];exact hx.bO (aY.out.bO (KX k aW)));clear hve Bw b9 aT oW hc KX ND;go_wp2_with fail;refine (iY _ A v _ bA.out.ints).mono ?_;rintro e w2 ⟨rfl,bI⟩;have bU:=lh (HC.out.tr bI);have YT:=lh (fM.out.fresh bI);have oE:=lh (bA.out.aL bI (by simp));clear x0 x1 y0 y1 bs bI ck;obtain⟨x0,x1,y0,y1,bs⟩:=bm.out w2 bU.out;have ck:=HVC.out w2 bU.out;by_cases dE:v∈A
   ·have HM:=lh (PN.out dE)
    have HE:=lh (MH.out dE);rw[decide_eq_true dE];clear dE;go_wp2;go_roundw;case rel=>exact⟨k+1,A,xs,by omega,by go_num,by rw[HE.out,XL.out,HRT.out];exact YT.out,oE.out,aaI.out,by omega,HM,bU.out⟩
    case measure=>simp[intOf];omega
   have HE:=lh (Tm.out dE);have HM:=lh (HAD.out dE);rw[decide_eq_false dE];clear dE;go_wp2;have aG:(λw':World=>w'.cell? ⟨w.heap.size,0,none⟩=some (.int .i64 g.n)/\w'.cell? ⟨w.heap.size,1,none⟩=some (.slice eo g.e.length cap)/\w'.cell? ⟨w.heap.size+1,0,none⟩=some (.slice (some ⟨vb,A7,none⟩) p.v.length ac)/\w'.cell? ⟨w.heap.size+1,1,none⟩=some (.slice bo p.e.length bc)/\w'.cell? ⟨vb,A7+k,none⟩=some (.int .i64 v)) w2.drew:=⟨x0,x1,y0,y1,ck⟩;refine al (λw':World=>w'.cell? ⟨w.heap.size,0,none⟩=some (.int .i64 g.n)/\w'.cell? ⟨w.heap.size,1,none⟩=some (.slice eo g.e.length cap)/\w'.cell? ⟨w.heap.size+1,0,none⟩=some (.slice (some ⟨vb,A7,none⟩) p.v.length ac)/\w'.cell? ⟨w.heap.size+1,1,none⟩=some (.slice bo p.e.length bc)/\w'.cell? ⟨vb,A7+k,none⟩=some (.int .i64 v)) [0,1,2,3,4,5,6] (Way.line [0,1,2,3,4,5,6,7,8,9] .done) (by kernel_rfl) (by kernel_rfl) ?_;simp only[Way.line]
   repeat (refine aj (v:=?_) rfl (by rfl) (by rfl) (λ_ _ _ h=>h) aG (λw' aB=>?_) ?_;rotate_left;(focus ((try dsimp only at aB);go_simp;try with_reducible rfl));simp only[Qg,Z1,Z2,Z3,Z4,Z5,Z6])
   refine aq rfl (by rfl) (by rfl) (λK hK=>?_);go_simp;have Zu:=((ai.refl [] w2).alloc (.cells #[.int .i64 v] 3)).drew;have B6:=lh ((dI w2 IV).fresh (ai.refl [] _).drew);have Mo:=lh (bU.out.tr Zu);have aeV:=lh (YT.out.fresh Zu);have zc:=lh (oE.out.aL Zu (by simp));have bH:(λw':World=>w'.cell? ⟨w.heap.size,0,none⟩=some (.int .i64 g.n)/\w'.cell? ⟨w.heap.size,1,none⟩=some (.slice eo g.e.length cap)/\w'.cell? ⟨w.heap.size+1,0,none⟩=some (.slice (some ⟨vb,A7,none⟩) p.v.length ac)/\w'.cell? ⟨w.heap.size+1,1,none⟩=some (.slice bo p.e.length bc)/\w'.cell? ⟨vb,A7+k,none⟩=some (.int .i64 v)) (w2.alloc (.cells #[.int .i64 v] 3)).drew:=by grind [ai.bO]
   refine hK.out _ _ (λ_=>bH) ?_;clear hK K aG Zu x0 x1 y0 y1 ck bs;generalize (w2.alloc (.cells #[.int .i64 v] 3)).drew=wa at *;generalize w2.heap.size=nl at *;try simp only[Qg,Z1,Z2,Z3,Z4,Z5,Z6]
   refine aq rfl (by rfl) (by rfl) (λK hK=>?_);go_simp;refine (kV _ _ _ g p v (-1) _ (by omega) hE HR.out HVM.out (HG.out.fresh (aY.out.tr Mo.out)) (HP.out.fresh (aY.out.tr Mo.out)) B6.out).mono ?_;rintro e w3 ⟨v3,M,rfl,rM,hM,hMn,dK⟩;obtain⟨uo,uc,rfl⟩:=rM.shape;have sd:M.length<=1000:=Nat.le_trans (zD hMn λx hx=>PS ni.out HVM.out ((hM x).1 hx)) hV;have Vi:=lh rM.ints;have ZT:=lh (rM.base (Qh _));have Il:=lh (show ∀ b∈(Qa uo M.length uc).ownBlock.toList,b ∉ aC (Qa mo A.length mc) from λb hb e=>by
    have h1:=(rM.low b hb).1;have h2:=(zc.out.low b (by grind [jG])).2;omega)
   have WW:=lh (HM.out M hM);have HMC:=lh hM;have b8:=lh (Mo.out.tr dK);have PT:=lh (aeV.out.fresh dK);have Sn:=lh (zc.out.aL dK (by simp));have iN:(λw':World=>w'.cell? ⟨w.heap.size,0,none⟩=some (.int .i64 g.n)/\w'.cell? ⟨w.heap.size,1,none⟩=some (.slice eo g.e.length cap)/\w'.cell? ⟨w.heap.size+1,0,none⟩=some (.slice (some ⟨vb,A7,none⟩) p.v.length ac)/\w'.cell? ⟨w.heap.size+1,1,none⟩=some (.slice bo p.e.length bc)/\w'.cell? ⟨vb,A7+k,none⟩=some (.int .i64 v)) w3:=by
    grind [ai.bO]
   refine hK.out _ _ (λ_=>iN) ?_;clear hK K bH rM hM hMn dK;try simp only[Qg,Z1,Z2,Z3,Z4,Z5,Z6]
   refine aq rfl (by rfl) (by rfl) (λK hK=>?_);go_simp;refine hK.out _ _ (λ_=>iN) ?_;clear hK K iN;try simp only[Qg,Z1,Z2,Z3,Z4,Z5,Z6]
   refine ar ?_;have wK:=lh (show w1.heap.size<=w3.heap.size from b8.out.size);have RV:A.length+M.length<4294967296:=by omega
   have HNR:=lh (λb (hb:(Qa oo rn oc).ownBlock=some b) (e:b∈aC (Qa mo A.length mc))=>show False by
    rcases gB PT.out.out Sn.out.1 (by decide) with q | q
    ·rw[q] at hb;cases hb
    exact q (hb.trans (by simpa[jG] using e:(Qa mo A.length mc).ownBlock=some b).symm))
   have Eu:=lh (show ∀ j∈aC (Qa mo A.length mc),w1.heap.size<=j from λj hj=>(Sn.out.low j (by simpa[jG] using hj)).1);go_wp2_with (first
    | (at_builtin;refine cH rfl _ _ rfl (B:=w1.heap.size) rfl rfl Sn.out Vi.out wK.out RV ?_;intro v6 w6 r6 c6 f6;have R6:=lh r6;have fC:=lh (b8.out.trans c6 (λj hj=>Qi (Eu.out j hj)));have YI:=lh (PT.out.aL c6 (λb hb e=>HNR.out b hb e) (λk b hk hb=>aaI.out k b hk hb));have F6:=lh f6;have aps:=lh (λk b (hk:k<xs.length) (hb:(xs.getD k undef).ownBlock=some b)=>(PT.out.kind hk hb).2.1);have amG:=lh (ZT.out.aL c6 Il.out).ints;obtain⟨x0,x1,y0,y1,bs⟩:=bm.out w6 fC.out;clear r6 c6 f6)
    | fail)
   refine (Wg _ _ _ g p M _ (by omega) hE HR.out (HG.out.fresh (aY.out.tr fC.out)) (HP.out.fresh (aY.out.tr fC.out)) amG.out).mono ?_;rintro e w8 ⟨s1,s2,rfl,q1,q2,q3,su⟩;obtain⟨s1o,s1c,rfl⟩:=q1.shape;obtain⟨s2o,s2c,rfl⟩:=q2.shape;have DG:=lh (fC.out.tr su);have Lm:=lh (YI.out.fresh su);have Q1:=lh q1;have Q2:=lh q2;have Q3:=lh q3;have HS6:=lh (show w1.heap.size<=w6.heap.size from fC.out.size);have Zb:=lh (R6.out.aL su (by simp));have HB8:=lh (show w1.heap.size<=w8.heap.size from DG.out.size);obtain⟨v6o,v6c,rfl⟩:=R6.out.shape;have HN8:=lh (show ∀ b∈(Qa v6o (A++M).length v6c).ownBlock.toList,b ∉ (Qa oo rn oc).ownBlock.toList from λb hb e=>by
    rcases gB Lm.out.out Zb.out.1 (by decide) with q | q
    ·rw[q] at e;simp at e
    exact q ((by simpa using e:(Qa oo rn oc).ownBlock=some b).trans (by simpa using hb:(Qa v6o (A++M).length v6c).ownBlock=some b).symm))
   have Bw:rn<68719476736:=by omega
   clear q1 q2 q3 su x0 x1 y0 y1 bs;go_wp2_with (at_builtin;refine pj zC rfl (.tmp 35) (.tmp 40) rfl (v:=.slice oo rn oc) rfl rfl rfl Lm.out.out HB8.out rfl (by intro u hu;simp at hu;rcases hu with rfl | rfl <;> rfl) Bw ?_;intro g9 aoP w9 r9 c9 l9;have R9:=lh r9;have C9:=lh c9;clear r9 c9 l9;go_frame);have LQ:=lh (show (p.sub g M).v=comp g p v/\(p.sub g M).e=(p.sub g (comp g p v)).e from SG ni.out HMC.out);have Py:=lh (Lm.out.add (w':=w9) (g:=g9) (cap:=aoP) (us:=[.slice s1o (p.sub g M).v.length s1c,.slice s2o (p.sub g M).e.length s2c]) (ds:=[.row (p.sub g M).v,.row (p.sub g M).e]) (by decide) rfl rfl (λi d hi=>by
     rcases i with _ | _ | i
     ·simp at hi;subst hi;exact Q1.out.base HS6.out
     ·simp at hi;subst hi;exact Q2.out.base HS6.out
     ·simp at hi) (λi j hi hj bn=>by
     simp at hi hj;have fy:=Q3.out;rw[Q1.out.aC,Q2.out.aC] at fy;rcases i with _ | _ | i
     ·rcases j with _ | _ | j
      ·omega
      ·cases hq:([Qa s1o (p.sub g M).v.length s1c,.slice s2o (p.sub g M).e.length s2c].getD 0 undef).ownBlock with
       | none=>exact Or.inl rfl
       | some b=>exact Qi (λe=>fy b (by simpa using hq) (by simpa using e.symm))
      omega
     ·rcases j with _ | _ | j
      ·cases hq:([Qa s1o (p.sub g M).v.length s1c,.slice s2o (p.sub g M).e.length s2c].getD 1 undef).ownBlock with
       | none=>exact Or.inl rfl
       | some b=>exact Qi (λe=>fy b (by simpa using e.symm) (by simpa using hq))
      ·omega
      omega
     ·omega) (λi j b hi hj hb e=>by
     simp at hj;have h1:=(YI.out.kind hi hb).2.1;rcases j with _ | _ | j
     ·have:=(Q1.out.low b (by simpa using e)).1;omega
     ·have:=(Q2.out.low b (by simpa using e)).1;omega
     omega) R9.out C9.out)
   go_roundw;case rel =>
    refine⟨k+1,A++M,xs++[.slice s1o (p.sub g M).v.length s1c,.slice s2o (p.sub g M).e.length s2c],by omega,by go_num,?_,by simpa only[Qb] using Zb.out.aL C9.out HN8.out,?_,by rw[Qb];omega,WW,DG.out.trans C9.out (λj hj=>Qi (Lm.out.out.lt j (by simpa using hj)).1)⟩
    ·rw[HE.out,Qb,an3.out,NX,<-LQ.out.2,<-LQ.out.1]
     exact Py.out
    intro i b hi hb e;rw[<-Qb] at e;have h6:=F6.out b e;have hl6:b<w6.heap.size:=(R6.out.low b (by rw[<-R6.out.aC];exact e)).2;by_cases q:i<xs.length
    ·rw[cP q] at hb
     rcases h6 with r | r
     ·exact aaI.out i b q hb r
     have:=aps.out i b q hb;omega
    rw[dS (by omega)] at hb;have sS:i - xs.length<2:=by simp at hi;omega
    rcases (show i - xs.length=0\/i - xs.length=1 by omega) with r | r
    ·rw[r] at hb
     have:=(Q1.out.low b (by simpa using hb)).1;omega
    rw[r] at hb;have:=(Q2.out.low b (by simpa using hb)).1;omega
   case measure=>simp[intOf];omega
  have e:k=p.v.length:=by omega
  subst e;rw[pT] at fM b9 ⊢;have gU:=lh (aY.out.tr HC.out);clear b9 aT oW hc x0 x1 ND;obtain⟨rn,Bw⟩:∃ rn,(roots g p).length=rn:=⟨_,rfl⟩;have XL:=lh Bw;have EB:=lh (fM.out.base aY.out.size);rw[Bw] at EB ⊢;clear Bw;go_wp2;go_ret;exact⟨_,xs,rfl,by rw[XL.out];exact EB.out,gU.out⟩
