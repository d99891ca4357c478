/- draw.begin: contract. Conditions: a graph, a right part with an oO that lie in memory and read so. -/
import Derived.Test.YtoiflofhcmjpoaaGreatF9Way
set_option maxRecDepth 100000
set_option maxHeartbeats 8000000
open List renaming mem_singleton→Qa,mem_filter→Qg
open Go.Value renaming slice→Qb,ownBlock→Qc,agg→Ql,int→Qm
open Go.Act renaming put→Qd
open Int renaming toNat_natCast→Qe
open Option renaming getD_some→Qf,map_some→Qh,some→Qj
open Nat renaming le_trans→Qi
open Or renaming inl→Qk
-- READS ONLY
namespace Go.Proofs.YtoiflofhcmjpoaaGreat
open Plain
open Go.RowKit Go.Maps
namespace Plain
variable {g:Gr} {p:Pt} {a b:Int}
theorem vm (h:p.err g=0) (x:Int):(dR p x).err g=0:=by
 obtain⟨h1,h2,h3,h4⟩:=Pt.aF h;refine Pt.zb h1 h2 (fI h3 _) λe he=>?_;obtain⟨i,hi,rfl⟩:=cr (Qg.1 he).1;exact h4 i hi
def fN (g:Gr) (p:Pt):List Int:=2*p.e.getD 0 0 :: (jm g (dR p (p.e.getD 0 0)) (g.at (p.e.getD 0 0)).2 (g.at (p.e.getD 0 0)).1).getD []
def gI (g:Gr) (p:Pt):Sk:=⟨dM g (fN g p),[fN g p,twins (fN g p)],cw g (dM g (fN g p)) [fN g p,twins (fN g p)] (a8 p.e (fN g p)) [0,1]⟩
theorem Ky (hp:p.err g=0) (h:pX g p b (eB g p (-1) b)) (hc:∀ v,eB g p (-1) b v≠none↔bS g p (-1) b v):∀ d∈(jm g p a b).getD [],d∈p.ah:=by
 intro d hd;unfold jm at hd;have hk:=Pt.ax hp;cases hq:eB g p (-1) b a with
 | none=>rw[hq] at hd;simp at hd
 | some c =>
  rw[hq] at hd;have h0:=h.low a c hq;simp only[Qh,Qf] at hd;exact (nY hk (λv hv=>(hk.vr v hv).1) h hc c.toNat a (by rw[hq];congr 1;omega)).2.1 d hd
def rT (g:Gr) (p:Pt):Prop:=pX g (dR p (p.e.getD 0 0)) (g.at (p.e.getD 0 0)).1 (eB g (dR p (p.e.getD 0 0)) (-1) (g.at (p.e.getD 0 0)).1)/\∀ v,eB g (dR p (p.e.getD 0 0)) (-1) (g.at (p.e.getD 0 0)).1 v≠none↔bS g (dR p (p.e.getD 0 0)) (-1) (g.at (p.e.getD 0 0)).1 v
theorem Rb (hp:p.err g=0) (h:pX g p b (eB g p (-1) b)) (hc:∀ v,eB g p (-1) b v≠none↔bS g p (-1) b v):((jm g p a b).getD []).length<=p.v.length:=by
 unfold jm;have hk:=Pt.ax hp;cases hq:eB g p (-1) b a with
 | none=>simp
 | some c =>
  have h0:=h.low a c hq;obtain⟨-,i2,-,i4⟩:=nY hk (λv hv=>(hk.vr v hv).1) h hc c.toNat a (by rw[hq];congr 1;omega);simp only[Qh,Qf];have:=bY i4 λx hx=>by
   obtain⟨d,hd,rfl⟩:=List.mem_map.1 hx;exact (hk.aP (i2 d hd)).1
  simpa using this
end Plain
theorem Nv (vg vp:Value) (g:Gr) (p:Pt) (N:Nat) (w:World) (hr:p.err g=0) (hN:g.n=N) (lZ:0<p.e.length) (hg:cA w vg g) (hp:dt w vp p) :
  Calls Tryz.prog 82 #[vg,vp] w λe w'=>∃ sb ob vE fv rv xs ys,e=.returned (.pointer (some ⟨sb,0,none⟩))/\GU w w' sb ob N g vE fv rv xs ys (gI g p)/\rT g p/\ai [] w w':=by
 have HR:=lh hr;have HN:=lh hN;have ni:=lh (Pt.ax hr);have fB:=lh (Gr.aF (Pt.aF hr).1);have I0:=lh (Pt.aF hr).1;have sJ:=lh (Pt.aF hr).2.2.1;have AK:=lh (show p.e.length<=1024 by have:=ep (Pt.aF hr).2.2.1;have:=(Gr.aF (Pt.aF hr).1);omega);have uk:=lh (show p.v.length<=1025 from lT (N:=1025) ni.out.vn (λu hu=>by have:=ni.out.vr u hu;have:=fB.out.2.1;omega));have mE:p.v.length<=100000:=by have:=uk.out;omega
 have UO:p.e.getD 0 0∈p.e:=aQ lZ;have dp:=ni.out.ends _ UO;have AF:=cG sJ.out lZ;have Zs:=lh (show fN g p=2*p.e.getD 0 0 :: (jm g (dR p (p.e.getD 0 0)) (g.at (p.e.getD 0 0)).2 (g.at (p.e.getD 0 0)).1).getD [] from rfl);have VF:=lh (vm hr (p.e.getD 0 0));have pA:=lh UO;obtain⟨e0,he⟩:∃ e0:Nat,p.e.getD 0 0=e0:=⟨(p.e.getD 0 0).toNat,by omega⟩;rw[he] at dp AF Zs VF pA;have ZB:=lh he;have eJ:g.at (e0:Int)=g.ends e0:=by unfold Gr.at;rw[Qe]
 rw[eJ] at dp Zs;have iM:e0<g.e.length:=by omega
 clear hr hN UO he eJ;obtain⟨eo,cap,ao,ac,bo,bc,rfl,rfl,HG,HP,hm,uJ,oJ,pU,nG,xL,uD,aY,bm⟩:=eF hg hp;clear hg hp;obtain⟨x0,x1,y0,y1,bs⟩:=bm.out _ (ai.refl _ _);go_enter Tryz.func82,Tryz.ntmps82;obtain⟨bb,eO,rfl,oG⟩:=nG.out (by intro e;rw[e] at lZ;simp at lZ);have ce:=aY.out.bO (oG 0 lZ);rw[ZB.out,Nat.add_zero] at ce;obtain⟨eo',gF,F4,-,-,fx,hgc⟩:=HG.out;simp only[Ql.injEq,Array.mk.injEq,List.cons.injEq,Qb.injEq,true_and,and_true] at F4;obtain⟨rfl,rfl⟩:=F4;obtain⟨eb,cR,rfl,fs,dD⟩:=hgc e0 iM;obtain⟨z1,z2⟩:=fx e0 iM;have g0:=aY.out.bO fs;have g1:=aY.out.bO dD;obtain⟨x,hx⟩:∃ x,(g.ends e0).1=x:=⟨_,rfl⟩;obtain⟨y,hy⟩:∃ y,(g.ends e0).2=y:=⟨_,rfl⟩;have PU:=lh (show (g.at (p.e.getD 0 0)).1=x by rw[ZB.out];exact (congrArg (λn=>(g.ends n).1) (Qe e0)).trans hx);rw[hx] at g0 z1 dp Zs;rw[hy] at g1 z2 dp Zs;have Y9:=lh dp;clear oG hgc fx fs dD hx hy dp;go_wp2;generalize (w.alloc (.cells #[.int .i64 g.n,.slice (some ⟨eb,cR,none⟩) g.e.length cap] 24)).alloc (.cells #[.slice ao p.v.length ac,.slice (some ⟨bb,eO,none⟩) p.e.length bc] 27)=w1 at *;clear bs;have aG:ai [] w1 w1.drew:=(ai.refl [] w1).drew;refine al (ai [] w1) [0,1,2,4,5,6,7,8,9,10,11,12,13,14,15,17,18,19,20,21] (Way.line [0,1,2,4,5,6,7,8,9,10,11,12,13,14,15,3,16,17,18,19,20,21] .done) (by kernel_rfl) (by kernel_rfl) ?_;simp only[Way.line]
 repeat (refine aj (v:=?_) rfl (by rfl) (by rfl) (λ_ _ _ h=>h) aG (λw' aB=>?_) ?_;rotate_left;(focus (have fE:=aB.c x0;have fV:=aB.c x1;have kD:=aB.c y0;have tq:=aB.c y1;have MD:=aB.c g0;have rd5:=aB.c g1;have rd6:=aB.c ce;clear aB;go_simp;try with_reducible rfl));simp only[Qd,Z1,Z2,Z3,Z4,Z5,Z6])
 refine aq rfl (by rfl) (by rfl) (λK hK=>?_);go_simp;refine (Fq _ p e0 _ (by omega) (by have:=AK.out;omega) ((HP.out.fresh aY.out).fresh aG)).mono ?_;rintro e w3 ⟨d1,d2,rfl,hpd,dK⟩;have HPD:=lh hpd;have bH:ai [] w1 w3:=aG.tr dK;refine hK.out _ _ (λ_=>bH) ?_;clear hK K dK aG hpd;try simp only[Qd,Z1,Z2,Z3,Z4,Z5,Z6]
 repeat (refine aj (v:=?_) rfl (by rfl) (by rfl) (λ_ _ _ h=>h) bH (λw' aB=>?_) ?_;rotate_left;(focus (have fE:=aB.c x0;have fV:=aB.c x1;have kD:=aB.c y0;have tq:=aB.c y1;have MD:=aB.c g0;have rd5:=aB.c g1;have rd6:=aB.c ce;clear aB;go_simp;try with_reducible rfl));simp only[Qd,Z1,Z2,Z3,Z4,Z5,Z6])
 refine aq rfl (by rfl) (by rfl) (λK hK=>?_);go_simp;refine (Tw _ _ g (dR p e0) y x _ VF.out Y9.out.2 Y9.out.1 ((HG.out.fresh aY.out).fresh bH) HPD.out).mono ?_;rintro e w4 ⟨v4,rfl,hr4,hpc,gX⟩;have iN:ai [] w1 w4:=bH.tr gX;have Ez:=lh hr4;have TL:=lh hpc;obtain⟨o4,c4,rfl⟩:=hr4.shape;refine hK.out _ _ (λ_=>iN) ?_;clear hK K gX bH hr4 hpc;try simp only[Qd,Z1,Z2,Z3,Z4,Z5,Z6]
 repeat (refine aj (v:=?_) rfl (by rfl) (by rfl) (λ_ _ _ h=>h) iN (λw' aB=>?_) ?_;rotate_left;(focus (have fE:=aB.c x0;have fV:=aB.c x1;have kD:=aB.c y0;have tq:=aB.c y1;have MD:=aB.c g0;have rd5:=aB.c g1;have rd6:=aB.c ce;clear aB;go_simp;try with_reducible rfl));simp only[Qd,Z1,Z2,Z3,Z4,Z5,Z6])
 refine ar ?_;have sI:=lh iN;have OE:=lh (show ∀ d∈fN g p,0<=d/\d / 2<g.e.length/\d∈p.ah from λd hd=>by
  have oF:d∈p.ah:=by
   rw[Zs.out] at hd;rcases List.mem_cons.1 hd with r | r
   ·rw[r];exact au.2 (by rw[show 2*(e0:Int) / 2=e0 by omega];exact pA.out)
   have h:=Ky VF.out TL.out.1 TL.out.2 d r;exact au.2 (Qg.1 (au.1 h)).1
  obtain⟨i,hi,e⟩:=cr (au.1 oF);have:=cG sJ.out hi;exact⟨by omega,by omega,oF⟩)
 have ZY:=lh (show ((jm g (dR p e0) y x).getD []).length<=1025 from Qi (Rb VF.out TL.out.1 TL.out.2) uk.out);obtain⟨l,hl⟩:∃ l,(jm g (dR p e0) y x).getD []=l:=⟨_,rfl⟩;obtain⟨bo2,ah1⟩:∃ b,(jm g (dR p e0) y x).isSome=b:=⟨_,rfl⟩;rw[hl] at Ez Zs ZY ⊢;rw[ah1];have aqj:bF (2*(e0:Int)):=bF.mk (by omega) (by have:=fB.out.2.2.1;have:=fB.out.1;omega);have AO:(e0:Int)<=1024:=by have:=fB.out.2.2.1;have:=fB.out.1;omega
 have xa:=lh (((ai.refl [] w4).alloc (.cells #[.int .i64 (2*(e0:Int))] 3)).alloc (.cells #[.slice (some ⟨w4.heap.size,0,none⟩) 1 1,.slice o4 l.length c4] 25));have It:=lh ((dI w4 aqj).fresh ((ai.refl [] (w4.alloc (.cells #[.int .i64 (2*(e0:Int))] 3))).alloc (.cells #[.slice (some ⟨w4.heap.size,0,none⟩) 1 1,.slice o4 l.length c4] 25)));have dN:=heap_alloc_new (w4.alloc (.cells #[.int .i64 (2*(e0:Int))] 3)) (.cells #[.slice (some ⟨w4.heap.size,0,none⟩) 1 1,.slice o4 l.length c4] 25);rw[show (w4.alloc (.cells #[.int .i64 (2*(e0:Int))] 3)).heap.size=w4.heap.size+1 by simp] at dN;have DZ:=lh dN;clear hl ah1 dN iN x0 x1 y0 y1 g0 g1 ce;go_wp2_with fail;refine (ye (w4.heap.size+1) 2 2 (λk=>if k=0 then .slice (some ⟨w4.heap.size,0,none⟩) 1 1 else .slice o4 l.length c4) [[2*(e0:Int)],l] _ rfl (by omega) (by have:=ZY.out;simp;omega) (λk hk=>by
  rcases (show k=0\/k=1 by omega) with rfl | rfl
  ·exact⟨(cell_of_row _ _ 0 _ _ _ DZ.out).trans rfl,It.out⟩
  exact⟨(cell_of_row _ _ 1 _ _ _ DZ.out).trans rfl,(Ez.out.ints).fresh xa.out⟩)).mono ?_
 rintro e w5 ⟨v5,rfl,nf,dV⟩;rw[show ([[2*(e0:Int)],l]:List (List Int)).flatten=fN g p by rw[Zs.out];simp] at nf;have nf:=nf.base (B:=w.heap.size) ((aY.out.tr sI.out).tr xa.out).size;obtain⟨o5,c5,rfl⟩:=nf.shape;have AU:=lh (show (fN g p).length<=1026 by rw[Zs.out];have:=ZY.out;simp;omega);have rD:=lh nf;have abL:=lh (show ai [] w1 w5 from (sI.out.tr xa.out).tr dV);have fG:=lh (aY.out.tr abL.out);obtain⟨c,hc⟩:∃ c,fN g p=c:=⟨_,rfl⟩;have lY:=lh hc;rw[hc] at OE AU rD ⊢;clear nf dV hc Ez DZ It xa;obtain⟨x0,x1,y0,y1,bs⟩:=bm.out _ abL.out;have HZ5:=lh bs;go_wp2_with fail;have aG:ai [] w5 w5.drew:=(ai.refl [] w5).drew;refine al (ai [] w5) [0,1,2,4,6] (Way.line [0,1,2,3,4,5,6] .done) (by kernel_rfl) (by kernel_rfl) ?_;simp only[Way.line]
 repeat (refine aj (v:=?_) rfl (by rfl) (by rfl) (λ_ _ _ h=>h) aG (λw' aB=>?_) ?_;rotate_left;(focus (have fE:=aB.c x0;have fV:=aB.c x1;clear aB;go_simp;try with_reducible rfl));simp only[Qd,Z1,Z2,Z3,Z4,Z5,Z6])
 refine aq rfl (by rfl) (by rfl) (λK hK=>?_);simp only[List.getElem_toArray,List.getElem_cons_zero,List.getElem_cons_succ];refine tY GF _ _ rfl (B:=w5.heap.size) (n:=N) (by show Qm .i64 g.n=_;rw[HN.out]) (by show Qm .i64 g.n=_;rw[HN.out]) (Nat.le_refl _) (by have:=fB.out.2.1;have:=HN.out;omega) (λw6 h6 c6=>?_);have H6:=lh (show bT w6 w5.heap.size w5.heap.size N (λ_=>false) from Cx h6);have bH:ai [] w5 w6:=aG.tr c6;refine hK.out _ _ (λ_=>bH) ?_;clear hK K aG h6 c6;try simp only[Qd,List.setIfInBounds_toArray,List.set_cons_zero,List.set_cons_succ]
 repeat (refine aj (v:=?_) rfl (by rfl) (by rfl) (λ_ _ _ h=>h) bH (λw' aB=>?_) ?_;rotate_left;(focus (have fE:=aB.c x0;have fV:=aB.c x1;clear aB;go_simp;try with_reducible rfl));simp only[Qd,Z1,Z2,Z3,Z4,Z5,Z6])
 refine aq rfl (by rfl) (by rfl) (λK hK=>?_);go_simp;have iN:=bH.alloc (.cells #[.int .i64 g.n,.slice (some ⟨eb,cR,none⟩) g.e.length cap,.slice (some ⟨w5.heap.size,0,none⟩) N N,.slice none 0 0,.slice none 0 0] 113);refine hK.out _ _ (λ_=>iN) ?_;clear hK K;try simp only[Qd,Z1,Z2,Z3,Z4,Z5,Z6]
 repeat (refine aj (v:=?_) rfl (by rfl) (by rfl) (λ_ _ _ h=>h) iN (λw' aB=>?_) ?_;rotate_left;(focus (have fE:=aB.c x0;have fV:=aB.c x1;clear aB;go_simp;try with_reducible rfl));simp only[Qd,Z1,Z2,Z3,Z4,Z5,Z6])
 refine ar ?_;have dN:=heap_alloc_new w6 (.cells #[.int .i64 g.n,.slice (some ⟨eb,cR,none⟩) g.e.length cap,.slice (some ⟨w5.heap.size,0,none⟩) N N,.slice none 0 0,.slice none 0 0] 113);have XA:=lh dN;have H7:=lh (H6.out.aL ((ai.refl [] w6).alloc (.cells #[.int .i64 g.n,.slice (some ⟨eb,cR,none⟩) g.e.length cap,.slice (some ⟨w5.heap.size,0,none⟩) N N,.slice none 0 0,.slice none 0 0] 113)) (by simp));have RU:=lh H6.out.lt;have aqa:=lh iN;have aqF:=lh bH.size;clear dN bH iN x0 x1 y0 y1 bs H6;generalize w6.alloc (.cells #[.int .i64 g.n,.slice (some ⟨eb,cR,none⟩) g.e.length cap,.slice (some ⟨w5.heap.size,0,none⟩) N N,.slice none 0 0,.slice none 0 0] 113)=w7 at *;obtain⟨sb,E5⟩:∃ n,w6.heap.size=n:=⟨_,rfl⟩;obtain⟨ob,Et⟩:∃ n,w5.heap.size=n:=⟨_,rfl⟩;have Bb:=lh (show w.heap.size<=ob by rw[<-Et];exact fG.out.size);have GN:=lh Et;rw[E5] at XA RU ⊢;rw[Et] at XA H7 RU ⊢;have HOS:=lh (show ob<sb from RU.out.2);clear E5 Et;go_wp2_with fail;go_loopw [11,50] (λ_ k wr=>∃ i:Nat,i<=c.length/\k=.int .i64 i/\bT wr ob ob N (dM g (c.take i))/\ai [ob] w7 wr) (λ_ k _=>c.length - (intOf k).toNat);case atStart=>exact⟨0,Nat.zero_le _,rfl,uY H7.out (λ_ _=>rfl),ai.refl _ _⟩
 case round =>
  obtain⟨i,hi,rfl,wW,hc⟩:=hrel;have HB:=lh wW;have HC:=lh hc;have J6:=lh (aqa.out.trans hc (λj hj=>Or.inr (by rw[Qa] at hj;have:=GN.out;omega)));have ZR:=lh (abL.out.tr J6.out);have qa:=lh (aY.out.tr ZR.out);obtain⟨x0,x1,y0,y1,bs⟩:=bm.out _ ZR.out;have Iv:=hc.heap XA.out (by rw[Qa];have:=HOS.out;omega);have PN:=lh Iv;clear wW hc H7;by_cases aW:i<c.length
  ·obtain⟨rb,Y',xK⟩:=rD.out.some (by omega)
   subst Y';have bX:=J6.out.bO (xK i aW);have lU:=OE.out _ (aQ aW);have HT:=lh (Ce (g:=g) aW);obtain⟨n,hn⟩:∃ n:Nat,c.getD i 0=n:=⟨(c.getD i 0).toNat,by omega⟩;rw[hn] at bX HT lU;have hvv:=ni.out.vr _ (ni.out.aP lU.2.2).1;obtain⟨v,hv⟩:∃ v:Nat,g.tail (n:Int)=v:=⟨(g.tail (n:Int)).toNat,by omega⟩;rw[hv] at HT hvv;have Iq:=lh hv;have AL:v<N:=by have:=HN.out;omega
   have Pf:(v:Int)<(N:Int):=by omega
   have kr:n / 2<g.e.length:=by have:=lU.2.1;omega
   have s2:=(cell_of_row _ _ 2 _ _ _ Iv).trans (show _=some (Qb (some ⟨ob,0,none⟩) N N) from rfl);have lu:c.length<=1026:=AU.out;clear xK hn hv lU hvv Iv y0 y1 bs;go_wp2_with fail;have aG:ai [] wr wr.drew:=(ai.refl [] wr).drew;refine al (ai [] wr) [0,1,2,3,4,5,7] (Way.line [0,1,2,3,4,5,6,7,8] .done) (by kernel_rfl) (by kernel_rfl) ?_;simp only[Way.line]
   repeat (refine aj (v:=?_) rfl (by rfl) (by rfl) (λ_ _ _ h=>h) aG (λw' aB=>?_) ?_;rotate_left;(focus (have fE:=aB.c x0;have fV:=aB.c x1;have kD:=aB.c s2;clear aB;go_simp;try with_reducible rfl));simp only[Qd,Z1,Z2,Z3,Z4,Z5,Z6])
   refine aq rfl (by rfl) (by rfl) (λK hK=>?_);go_simp;refine (dH _ g n _ kr (by have:=fB.out.2.2.1;have:=fB.out.1;omega) ((HG.out.fresh qa.out).fresh aG)).mono ?_;rw[Iq.out];rintro e w9 ⟨rfl,hc9⟩;have bH:ai [] wr w9:=aG.tr hc9;refine hK.out _ _ (λ_=>bH) ?_;clear hK K hc9 aG;try simp only[Qd,Z1,Z2,Z3,Z4,Z5,Z6]
   repeat (refine aj (v:=?_) rfl (by rfl) (by rfl) (λ_ _ _ h=>h) bH (λw' aB=>?_) ?_;rotate_left;(focus (have fE:=aB.c x0;have fV:=aB.c x1;have kD:=aB.c s2;clear aB;go_simp;try with_reducible rfl));simp only[Qd,Z1,Z2,Z3,Z4,Z5,Z6])
   have VR:=HB.out.aL bH (by simp);have bc:=VR.cell AL;have bf:=VR.free v;refine aq rfl (by rfl) (by rfl) (λK hK=>?_);go_simp;refine hK.out _ _ (λh=>absurd h (Bool.eq_false_iff.1 (by kernel_rfl))) ?_;clear hK K;try simp only[Qd,Z1,Z2,Z3,Z4,Z5,Z6]
   refine ar ?_;have h1:=VR.set (v:=v) true;have e:(λu=>if u=(v:Int) then true else dM g (c.take i) u)=dM g (c.take (i+1)):=funext λu=>(HT.out u).symm;rw[e] at h1;have HH1:=lh h1;have Ll:=lh ((HC.out.tr bH).trans ((ai.refl [ob] w9).setCell (p:=⟨ob,v,none⟩) (Qk (by simp)) (.bool true)) (λj hj=>Qk hj));clear h1 e VR bc bf bH x0 x1 s2 bX;generalize w9.setCell ⟨ob,v,none⟩ (.bool true)=Uz at *;go_wp2;go_roundw;case rel=>exact⟨i+1,by omega,by go_num,HH1.out,Ll.out⟩
   case measure=>simp[intOf];omega
  have e:i=c.length:=by omega
  subst e;rw[List.take_length] at HB;have LB:=lh (show (twins c).length=c.length from qj c);have HDT:=lh (show ∀ d∈twins c,0<=d/\d / 2<g.e.length from λd hd=>by
   have h2:=OE.out _ (ff.1 hd);have h3:=bJ d;omega)
  have HGI:=lh (pn.mk (sb:=sb) (vE:=.slice (some ⟨eb,cR,none⟩) g.e.length cap) (N:=N) (g:=g) ((cell_of_row _ _ 0 _ _ _ Iv).trans rfl) ((cell_of_row _ _ 1 _ _ _ Iv).trans rfl) (HG.out.fresh qa.out) HN.out I0.out);have YQ:=lh (rD.out.aL J6.out (by simp));clear hi aW Iv x0 x1 y0 y1 bs;go_wp2_with fail;refine (og sb N _ _ g c wr HGI.out (by have:=AU.out;omega) (λd hd=>⟨(OE.out d hd).1,(OE.out d hd).2.1⟩) YQ.out.ints).mono ?_;rintro e Mr ⟨iz,rfl,hbb1,hc11⟩;have afc:=lh hbb1;have ZI:=lh hc11;clear hbb1 hc11;go_wp2_with fail;refine (BX _ c Mr (by have:=AU.out;omega) (λd hd=>by have h:=OE.out d hd;have:=fB.out.2.2.1;have:=fB.out.1;omega) (YQ.out.ints.fresh ZI.out)).mono ?_;rintro e OD ⟨v12,rfl,hr12,hc12⟩;obtain⟨o12,Jk,rfl⟩:=hr12.shape;have agr:=lh hr12;have Dw:=lh (ZI.out.tr hc12);have afL:=lh hc12;clear hr12 hc12;go_wp2_with fail;refine (og sb N _ _ g (twins c) OD (HGI.out.fresh Dw.out) (by rw[LB.out];have:=AU.out;omega) HDT.out agr.out.ints).mono ?_;rintro e w13 ⟨gY,rfl,hbb2,hc13⟩;have afH:=lh hbb2;have abB:=lh (Dw.out.tr hc13);have TN:=lh hc13;clear hbb2 hc13;have qJ:=(ai.refl [] w13).alloc (.cells #[.slice o5 c.length c5,.slice (some ⟨iz,0,none⟩) N N,.slice o12 (twins c).length Jk,.slice (some ⟨gY,0,none⟩) N N] 158);have H9:=lh (World.ownsRow_lit (size:=2) (e:=158) (base:=w.heap.size) w13 #[.slice o5 c.length c5,.slice (some ⟨iz,0,none⟩) N N,.slice o12 (twins c).length Jk,.slice (some ⟨gY,0,none⟩) N N] 2 ((qa.out.tr abB.out).size) (by decide) rfl);have Mj:=(abB.out.tr qJ).hp PN.out;have xa:=lh qJ;have s3:=(cell_of_row _ _ 3 _ _ _ Mj).trans (show _=some (Qb none 0 0) from rfl);have f3:=bE Mj 3;have Zo:=lh Mj;have WM:=lh (abB.out.tr qJ);have ahH:=lh (qa.out.tr WM.out);clear qJ Mj;obtain⟨x0,x1,y0,y1,bs⟩:=bm.out _ ((ZR.out.tr WM.out).tr ((ai.refl [] _)));have HY1:=lh y1;have agM:w.heap.size+1<sb:=by have:=HOS.out;have:=HZ5.out;have:=GN.out;omega
  have amA:¬ w.heap.size+1=sb:=by omega
  have afa:¬ sb=w.heap.size+1:=by omega
  clear x0 x1 y0 bs;go_wp2_with fail;clear s3 f3 y1 amA afa;obtain⟨fb,Ps⟩:∃ n,w13.heap.size=n:=⟨_,rfl⟩;rw[Ps] at H9 ⊢;generalize w13.alloc (.cells #[.slice o5 c.length c5,.slice (some ⟨iz,0,none⟩) N N,.slice o12 (twins c).length Jk,.slice (some ⟨gY,0,none⟩) N N] 158)=TW at *;have br:ai [sb] TW (TW.setCell ⟨sb,3,none⟩ (.slice (some ⟨fb,0,none⟩) 2 2)):=(ai.refl _ TW).setCell (Qk (by simp)) _;have FR:=lh (heap_setCell_same Zo.out 3 (.slice (some ⟨fb,0,none⟩) 2 2));have Ig:∀ {b:Nat} {cs:Array Value} {t:TypeId} {r:Nat × Nat},TW.heap[b]?=some (.cells cs t r)->t≠113->b ∉ [sb]:=λ{b} {cs} {t} {r} h ht e=>by
   rw[Qa] at e;rw[e,Zo.out] at h;simp at h;exact ht h.2.1.symm
  have x4:∀ {v:Value} {l:List Int} {B:Nat},aw TW B v l->∀ b∈v.ownBlock.toList,b ∉ [sb]:=λh b hb=>by
   obtain⟨cs,r,hh⟩:=bu h b (by rw[h.aC];exact hb);exact Ig hh (by decide)
  have wH:∀ {b n:Nat} {B:Nat} {f:Int->Bool},bT TW B b n f->b ∉ [sb]:=λh=>by
   obtain⟨cs,hh⟩:=h.kind;exact Ig hh (by decide)
  have r1:=YQ.out.aL WM.out (by simp);have r2:=(agr.out.aL (TN.out.tr xa.out) (by simp)).base (B:=w.heap.size) (qa.out.tr ZI.out).size;have b0:=(HB.out.base Bb.out).aL WM.out (by simp);have b1:=(afc.out.base qa.out.size).aL ((afL.out.tr TN.out).tr xa.out) (by simp);have b2:=(afH.out.base (qa.out.tr Dw.out).size).aL xa.out (by simp);have rZ:=lh (show cW g (TW.setCell ⟨sb,3,none⟩ (.slice (some ⟨fb,0,none⟩) 2 2)) w.heap.size N (.slice (some ⟨fb,0,none⟩) 2 2) [.slice o5 c.length c5,.slice (some ⟨iz,0,none⟩) N N,.slice o12 (twins c).length Jk,.slice (some ⟨gY,0,none⟩) N N] [c,twins c] from by
   refine⟨bG H9.out br (λb hb=>?_),rfl,λi hi=>?_,λi hi=>?_⟩
   ·rcases H9.out.2 with ⟨q,_⟩ | ⟨g',c',cur,q,_,hh,_⟩
    ·cases q
    simp only[Qb.injEq,Qj.injEq,Addr.mk.injEq] at q;simp[Qc] at hb;rw[<-hb,q.1.1];exact Ig hh (by decide)
   ·rcases (show i=0\/i=1 by simp at hi;omega) with rfl | rfl
    ·exact r1.aL br (x4 r1)
    exact r2.aL br (x4 r2)
   rcases (show i=0\/i=1 by simp at hi;omega) with rfl | rfl
   ·exact⟨iz,rfl,b1.aL br (wH b1)⟩
   exact⟨gY,rfl,b2.aL br (wH b2)⟩)
  have ZW:=lh (b0.aL br (wH b0));have am7:=lh (r1.aL br (x4 r1));have LV:=lh (ahH.out.trans br (λj hj=>Or.inr (by rw[Qa] at hj;omega)));clear br Ig x4 wH r1 r2 b0 b1 b2 Ps;generalize TW.setCell ⟨sb,3,none⟩ (.slice (some ⟨fb,0,none⟩) 2 2)=Wv at *;have amF:=lh (pn.mk (sb:=sb) (vE:=.slice (some ⟨eb,cR,none⟩) g.e.length cap) (N:=N) (g:=g) ((cell_of_row _ _ 0 _ _ _ FR.out).trans rfl) ((cell_of_row _ _ 1 _ _ _ FR.out).trans rfl) (HG.out.fresh LV.out) HN.out I0.out);have HQ2:=lh ((cell_of_row _ _ 2 _ _ _ FR.out).trans (show _=some (Qb (some ⟨ob,0,none⟩) N N) from rfl));have V8:=lh ((cell_of_row _ _ 3 _ _ _ FR.out).trans (show _=some (Qb (some ⟨fb,0,none⟩) 2 2) from rfl));obtain⟨pv1,pv2,epv,-,dk⟩:=HP.out;simp only[Ql.injEq,Array.mk.injEq,List.cons.injEq,and_true] at epv;obtain⟨rfl,rfl⟩:=epv;have hE:∀ e∈p.e,0<=e/\e<g.e.length:=λe he=>by
   obtain⟨i,hi,rfl⟩:=cr he;have:=cG sJ.out hi;exact⟨by omega,by omega⟩
  have uu:=lh hE;refine (xc _ _ p.e c Wv (by have:=AK.out;omega) (by have:=AU.out;omega) (λe he=>by have:=hE e he;have:=fB.out.2.2.1;have:=fB.out.1;omega) (dk.fresh LV.out) am7.out.ints).mono ?_;rintro e xF ⟨v16,rfl,hr16,hc16⟩;obtain⟨o16,c16,rfl⟩:=hr16.shape;have aqf:=lh hr16;have anv:=lh hc16;clear hr16 hc16 dk hE;go_wp2_with fail;have yt:=xP xF (x:=0) (y:=1) (bF.mk (by omega) (by omega)) (bF.mk (by omega) (by omega));have Tp:=lh yt;have Ei:=lh (anv.out.tr ((ai.refl [] xF).alloc (.cells #[.int .i64 0,.int .i64 1] 3)));have apy:=lh (aqf.out.aL ((ai.refl [] xF).alloc (.cells #[.int .i64 0,.int .i64 1] 3)) (by simp));clear yt;refine (zQ sb ob N w.heap.size _ (.slice (some ⟨fb,0,none⟩) 2 2) _ _ g (dM g c) [c,twins c] _ (a8 p.e c) [0,1] _ (amF.out.fresh Ei.out) (Ei.out.bO HQ2.out) (ZW.out.aL Ei.out (by simp)) (Ei.out.bO V8.out) (rZ.out.fresh Ei.out) (by simp) (Qi (List.length_filter_le _ _) AK.out) (λe he=>uu.out e (cU.1 he).1) apy.out.ints (by simp) (by simp) Tp.out).mono ?_;rintro e U8 ⟨ov,ys,rfl,bn,hc18⟩;obtain⟨ro,rc3,rfl⟩:=bn.shape;have WU:=lh (Ei.out.tr hc18);have aoN:=lh bn;have jq:=lh (bn.base (B:=w.heap.size) (LV.out.tr Ei.out).size);have LM:=WU.out.hp FR.out;have Ri:=lh LM;have s4:=(cell_of_row _ _ 4 _ _ _ LM).trans (show _=some (Qb none 0 0) from rfl);have f4:=bE LM 4;clear bn hc18 LM;go_wp2;go_ret;have br:ai [sb] U8 (U8.setCell ⟨sb,4,none⟩ (.slice ro (cw g (dM g c) [c,twins c] (a8 p.e c) [0,1]).length rc3)):=(ai.refl _ U8).setCell (Qk (by simp)) _;have ahb:=heap_setCell_same Ri.out 4 (.slice ro (cw g (dM g c) [c,twins c] (a8 p.e c) [0,1]).length rc3);have Ig:∀ {b:Nat} {cs:Array Value} {t:TypeId} {r:Nat × Nat},U8.heap[b]?=some (.cells cs t r)->t≠113->b ∉ [sb]:=λ{b} {cs} {t} {r} h ht e=>by
   rw[Qa] at e;rw[e,Ri.out] at h;simp at h;exact ht h.2.1.symm
  have uB:=(LV.out.tr WU.out).trans br (λj hj=>Or.inr (by rw[Qa] at hj;omega));have vi:=rZ.out.fresh WU.out;have Io:=ZW.out.aL WU.out (by simp);have x4:∀ {v:Value} {l:List Int} {B:Nat},aw U8 B v l->∀ b,v.ownBlock=some b->b ∉ [sb]:=λh b hb=>by
   obtain⟨cs,r,hh⟩:=bu h b (by rw[h.aC,hb];simp);exact Ig hh (by decide)
  have wH:∀ {b n:Nat} {B:Nat} {f:Int->Bool},bT U8 B b n f->b ∉ [sb]:=λh=>by
   obtain⟨cs,hh⟩:=h.kind;exact Ig hh (by decide)
  have ak1:gI g p=⟨dM g c,[c,twins c],cw g (dM g c) [c,twins c] (a8 p.e c) [0,1]⟩:=by unfold gI;rw[lY.out]
  rw[ak1];have aba:=rZ.out.fresh Ei.out;have av8:=HB.out.lt.2;have ays:=afc.out.lt.1;have auw:=afH.out.lt.1;have ayS:=Dw.out.size;have apT:rT g p:=by
   unfold rT;rw[PU.out,ZB.out];exact TL.out
  have Ym:=ZW.out.aL Ei.out (by simp);refine⟨sb,ob,_,_,_,_,ys,rfl,⟨⟨HG.out,HN.out,I0.out,uB,by omega,ahb,Io.aL br (wH Io)⟩,vi.aL br (λb hb=>?_) (λk b hk hb=>?_),jq.out.other br (λj hj cs t r hh=>?_),⟨λk hk hb=>?_,λk l b hk hl hb e=>?_⟩⟩,apT,uB⟩
  ·rcases vi.out.2 with ⟨q,_⟩ | ⟨g',c',cur,q,_,hh,_⟩
   ·cases q
   simp only[Qb.injEq,Qj.injEq,Addr.mk.injEq] at q;simp[Qc] at hb;rw[<-hb,q.1.1];exact Ig hh (by decide)
  ·rcases (show k=0\/k=1\/k=2\/k=3 by simp at hk;omega) with rfl | rfl | rfl | rfl
   ·exact x4 (vi.row 0 (by simp)) b hb
   ·obtain⟨b',e1,e2⟩:=vi.has 0 (by simp)
    have:b=b':=by
     have h:=hb;rw[show (1:Nat)=2*0+1 from rfl,e1] at h;simp[Qc] at h;exact h.symm
    rw[this];exact wH e2
   ·exact x4 (vi.row 1 (by simp)) b hb
   obtain⟨b',e1,e2⟩:=vi.has 1 (by simp);have:b=b':=by
    have h:=hb;rw[show (3:Nat)=2*1+1 from rfl,e1] at h;simp[Qc] at h;exact h.symm
   rw[this];exact wH e2
  ·rw[Qa] at hj
   rw[hj,Ri.out] at hh;simp at hh;rw[<-hh.2.1];exact⟨by decide,by decide⟩
  ·rcases (show k=0\/k=1\/k=2\/k=3 by simp at hk;omega) with rfl | rfl | rfl | rfl
   ·exact (aba.row 0 (by simp)).cO hb |>.ne Ym.cO (by decide) rfl
   ·have:iz=ob:=by simpa[Qc] using hb
    omega
   ·exact (aba.row 1 (by simp)).cO hb |>.ne Ym.cO (by decide) rfl
   have:gY=ob:=by simpa[Qc] using hb
   omega
  have h1:=aba.kinds hk hb;have h2:=aoN.out.kind hl e;omega
