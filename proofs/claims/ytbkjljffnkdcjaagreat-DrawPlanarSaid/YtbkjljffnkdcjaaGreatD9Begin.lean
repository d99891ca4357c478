/- draw.begin: contract. Conditions: a graph, a right part with an BU that lie in memory and read so. -/
import Derived.Test.YtbkjljffnkdcjaaGreatD9Way
open Go.Act renaming put→Qa
open List renaming mem_singleton→Qb,mem_filter→Qg
open Go.Value renaming slice→Qc,ownBlock→Qd,agg→Ql,int→Qm
open Int renaming toNat_natCast→Qe
open Option renaming getD_some→Qf,map_some→Qh,some→Qj
open Nat renaming le_trans→Qi
open Or renaming inl→Qk
namespace Go.Proofs.YtbkjljffnkdcjaaGreat
open Go.RowKit Go.Maps
namespace Plain
theorem zT {g:Gr} {p:Pt} (h:p.err g=0) (x:Int):(fB p x).err g=0:=by
 obtain⟨h1,h2,h3,h4⟩:=Pt.aP h;refine Pt.sJ h1 h2 (dH h3 _) fun e he=>?_;obtain⟨i,hi,rfl⟩:=bO (Qg.1 he).1;exact h4 i hi
def eY (g:Gr) (p:Pt):List Int:=2*p.e.getD 0 0 :: (iR g (fB p (p.e.getD 0 0)) (g.at (p.e.getD 0 0)).2 (g.at (p.e.getD 0 0)).1).getD []
def fJ (g:Gr) (p:Pt):Sk:=⟨dt g (eY g p),[eY g p,twins (eY g p)],cr g (dt g (eY g p)) [eY g p,twins (eY g p)] (aY p.e (eY g p)) [0,1]⟩
theorem Gn {g:Gr} {p:Pt} {a b:Int} (hp:p.err g=0) (h:nY g p b (dR g p (-1) b)) (hc:∀ v,dR g p (-1) b v≠none↔bP g p (-1) b v):∀ d∈(iR g p a b).getD [],d∈p.ag:=by
 intro d hd;unfold iR at hd;have hk:=Pt.aF hp;cases hq:dR g p (-1) b a with
 | none=>rw[hq] at hd;simp at hd
 | some c =>
  rw[hq] at hd;have h0:=h.low a c hq;simp only[Qh,Qf] at hd;exact (mI hk (fun v hv=>(hk.vr v hv).1) h hc c.toNat a (by rw[hq];congr 1;omega)).2.1 d hd
def qJ (g:Gr) (p:Pt):Prop:=nY g (fB p (p.e.getD 0 0)) (g.at (p.e.getD 0 0)).1 (dR g (fB p (p.e.getD 0 0)) (-1) (g.at (p.e.getD 0 0)).1)/\∀ v,dR g (fB p (p.e.getD 0 0)) (-1) (g.at (p.e.getD 0 0)).1 v≠none↔bP g (fB p (p.e.getD 0 0)) (-1) (g.at (p.e.getD 0 0)).1 v
theorem P8 {g:Gr} {p:Pt} {a b:Int} (hp:p.err g=0) (h:nY g p b (dR g p (-1) b)) (hc:∀ v,dR g p (-1) b v≠none↔bP g p (-1) b v):((iR g p a b).getD []).length<=p.v.length:=by
 unfold iR;have hk:=Pt.aF hp;cases hq:dR g p (-1) b a with
 | none=>simp
 | some c =>
  have h0:=h.low a c hq;obtain⟨-,i2,-,i4⟩:=mI hk (fun v hv=>(hk.vr v hv).1) h hc c.toNat a (by rw[hq];congr 1;omega);simp only[Qh,Qf];have:=bQ i4 fun x hx=>by
   obtain⟨d,hd,rfl⟩:=List.mem_map.1 hx;exact (hk.aQ (i2 d hd)).1
  simpa using this
end Plain
set_option maxRecDepth 100000 in
set_option maxHeartbeats 8000000 in
theorem KR (vg vp:Value) (g:Plain.Gr) (p:Plain.Pt) (N:Nat) (w:World) (hr:p.err g=0) (hN:g.n=N) (mn:0<p.e.length) (hg:dU w vg g) (hp:gD w vp p) :
  Calls Tryz.prog 55 #[vg,vp] w fun e w'=>∃ sb ob vE fv rv xs ys,e=.returned (.pointer (some ⟨sb,0,none⟩))/\CZ w w' sb ob N g vE fv rv xs ys (Plain.fJ g p)/\Plain.qJ g p/\ai [] w w':=by
 have HR:=lh hr;have HN:=lh hN;have sy:=lh (Plain.Pt.aF hr);have j7:=lh (Plain.Gr.aP (Plain.Pt.aP hr).1);have Cb:=lh (Plain.Pt.aP hr).1;have uV:=lh (Plain.Pt.aP hr).2.2.1;have rT:=lh (show p.e.length<=1024 by have:=fY (Plain.Pt.aP hr).2.2.1;have:=(Plain.Gr.aP (Plain.Pt.aP hr).1);omega);have yT:=lh (show p.v.length<=1025 from kX (N:=1025) sy.out.vn (fun u hu=>by have:=sy.out.vr u hu;have:=j7.out.2.1;omega));have pO:p.v.length<=100000:=by have:=yT.out;omega
 have J7:p.e.getD 0 0∈p.e:=Plain.aZ mn;have dm:=sy.out.ends _ J7;have Fy:=Plain.ct uV.out mn;have Wa:=lh (show Plain.eY g p=2*p.e.getD 0 0 :: (Plain.iR g (Plain.fB p (p.e.getD 0 0)) (g.at (p.e.getD 0 0)).2 (g.at (p.e.getD 0 0)).1).getD [] from rfl);have YB:=lh (Plain.zT hr (p.e.getD 0 0));have sS:=lh J7;obtain⟨e0,he⟩:∃ e0:Nat,p.e.getD 0 0=e0:=⟨(p.e.getD 0 0).toNat,by omega⟩;rw[he] at dm Fy Wa YB sS;have HEE:=lh he;have dN:g.at (e0:Int)=g.ends e0:=by unfold Plain.Gr.at;rw[Qe]
 rw[dN] at dm Wa;have nz:e0<g.e.length:=by omega
 clear hr hN J7 he dN;have HG:=lh hg;have HP:=lh hp;obtain⟨eo,cap,rfl,hn,hm,dS,aO⟩:=hg;obtain⟨v1,v2,rfl,hv,he⟩:=hp;obtain⟨ao,ac,rfl,has,KZ,cD⟩:=hv;obtain⟨bo,bc,rfl,la,vD,bT⟩:=he;have IB:=lh cD;have Ci:=lh bT;have VA:=lh has;have Sv:=lh la;obtain⟨-,-,cG⟩:=dq w #[.int .i64 g.n,.slice eo g.e.length cap] #[.slice ao p.v.length ac,.slice bo p.e.length bc] 24 27;have b8:=lh cG;have eE:=lh (fun w2 h=>im w (g:=g) (p:=p) (eo:=eo) (ao:=ao) (bo:=bo) (cap:=cap) (ac:=ac) (bc:=bc) (w2:=w2) h);clear aO cD bT dS has la hn cG;obtain⟨x0,x1,y0,y1,di⟩:=eE.out _ (ai.refl _ _)
 go_enter Tryz.func55,Tryz.ntmps55
 obtain⟨bb,rh,rfl,rR⟩:=Ci.out (by intro e;rw[e] at mn;simp at mn);have ce:=b8.out.c (rR 0 mn);rw[HEE.out,Nat.add_zero] at ce;obtain⟨eo',eS,DQ,-,-,dS,hgc⟩:=HG.out;simp only[Ql.injEq,Array.mk.injEq,List.cons.injEq,Qc.injEq,true_and,and_true] at DQ;obtain⟨rfl,rfl⟩:=DQ;obtain⟨eb,eB,rfl,gy,cG⟩:=hgc e0 nz;obtain⟨z1,z2⟩:=dS e0 nz;have g0:=b8.out.c gy;have g1:=b8.out.c cG;obtain⟨x,hx⟩:∃ x,(g.ends e0).1=x:=⟨_,rfl⟩;obtain⟨y,hy⟩:∃ y,(g.ends e0).2=y:=⟨_,rfl⟩;have XB:=lh (show (g.at (p.e.getD 0 0)).1=x by rw[HEE.out];exact (congrArg (fun n=>(g.ends n).1) (Qe e0)).trans hx);rw[hx] at g0 z1 dm Wa;rw[hy] at g1 z2 dm Wa;have Vy:=lh dm;clear rR hgc dS gy cG hx hy dm;go_wp2;generalize (w.alloc (.cells #[.int .i64 g.n,.slice (some ⟨eb,eB,none⟩) g.e.length cap] 24)).alloc (.cells #[.slice ao p.v.length ac,.slice (some ⟨bb,rh,none⟩) p.e.length bc] 27)=w1 at *;clear di;have aD:ai [] w1 w1.drew:=(ai.refl [] w1).drew;refine au (ai [] w1) [0,1,2,4,5,6,7,8,9,10,11,12,13,14,15,17,18,19,20,21] (Way.line [0,1,2,4,5,6,7,8,9,10,11,12,13,14,15,3,16,17,18,19,20,21] .done) (by kernel_rfl) (by kernel_rfl) ?_;simp only[Way.line]
 repeat
  first
   | (refine ar rfl (by rfl) (by rfl) (fun _ _ _ h=>h) aD ?_;simp only[Qa,Z1,Z2,Z3,Z4,Z5,Z6])
   | (refine aq (v:=?_) rfl (by rfl) (by rfl) (fun _ _ _ h=>h) aD (fun w' aK=>?_) ?_;rotate_left;(focus (have fU:=aK.c x0;have gX:=aK.c x1;have nP:=aK.c y0;have Fx:=aK.c y1;have rd4:=aK.c g0;have rd5:=aK.c g1;have rd6:=aK.c ce;clear aK;go_simp;try with_reducible rfl));simp only[Qa,Z1,Z2,Z3,Z4,Z5,Z6])
   | (refine ak rfl (by rfl) (by rfl) aD ?_;simp only[Qa,Z1,Z2,Z3,Z4,Z5,Z6])
 refine aC rfl (by rfl) (by rfl) (fun K hK=>?_);go_simp;refine (Ov _ p e0 _ (by omega) (by have:=rT.out;omega) ((HP.out.fresh b8.out).fresh aD)).mono ?_;rintro e w3 ⟨d1,d2,rfl,TR,dB⟩;have HPD:=lh TR;have bD:ai [] w1 w3:=aD.t dB;refine hK.out _ _ (fun _=>bD) ?_;clear hK K dB aD TR
 try simp only[Qa,Z1,Z2,Z3,Z4,Z5,Z6]
 repeat
  first
   | (refine ar rfl (by rfl) (by rfl) (fun _ _ _ h=>h) bD ?_;simp only[Qa,Z1,Z2,Z3,Z4,Z5,Z6])
   | (refine aq (v:=?_) rfl (by rfl) (by rfl) (fun _ _ _ h=>h) bD (fun w' aK=>?_) ?_;rotate_left;(focus (have fU:=aK.c x0;have gX:=aK.c x1;have nP:=aK.c y0;have Fx:=aK.c y1;have rd4:=aK.c g0;have rd5:=aK.c g1;have rd6:=aK.c ce;clear aK;go_simp;try with_reducible rfl));simp only[Qa,Z1,Z2,Z3,Z4,Z5,Z6])
   | (refine ak rfl (by rfl) (by rfl) bD ?_;simp only[Qa,Z1,Z2,Z3,Z4,Z5,Z6])
 refine aC rfl (by rfl) (by rfl) (fun K hK=>?_);go_simp;refine (PW _ _ g (Plain.fB p e0) y x _ YB.out Vy.out.2 Vy.out.1 ((HG.out.fresh b8.out).fresh bD) HPD.out).mono ?_;rintro e w4 ⟨v4,rfl,SE,hpc,iW⟩;have iz:ai [] w1 w4:=bD.t iW;have Cn:=lh SE;have FZ:=lh hpc;obtain⟨o4,c4,rfl⟩:=SE.shape;refine hK.out _ _ (fun _=>iz) ?_;clear hK K iW bD SE hpc
 try simp only[Qa,Z1,Z2,Z3,Z4,Z5,Z6]
 repeat
  first
   | (refine ar rfl (by rfl) (by rfl) (fun _ _ _ h=>h) iz ?_;simp only[Qa,Z1,Z2,Z3,Z4,Z5,Z6])
   | (refine aq (v:=?_) rfl (by rfl) (by rfl) (fun _ _ _ h=>h) iz (fun w' aK=>?_) ?_;rotate_left;(focus (have fU:=aK.c x0;have gX:=aK.c x1;have nP:=aK.c y0;have Fx:=aK.c y1;have rd4:=aK.c g0;have rd5:=aK.c g1;have rd6:=aK.c ce;clear aK;go_simp;try with_reducible rfl));simp only[Qa,Z1,Z2,Z3,Z4,Z5,Z6])
   | (refine ak rfl (by rfl) (by rfl) iz ?_;simp only[Qa,Z1,Z2,Z3,Z4,Z5,Z6])
 refine aB ?_;have uQ:=lh iz;have TU:=lh (show ∀ d∈Plain.eY g p,0<=d/\d / 2<g.e.length/\d∈p.ag from fun d hd=>by
  have pG:d∈p.ag:=by
   rw[Wa.out] at hd;rcases List.mem_cons.1 hd with r | r
   ·rw[r];exact Plain.aw.2 (by rw[show 2*(e0:Int) / 2=e0 by omega];exact sS.out)
   have h:=Plain.Gn YB.out FZ.out.1 FZ.out.2 d r;exact Plain.aw.2 (Qg.1 (Plain.aw.1 h)).1
  obtain⟨i,hi,e⟩:=Plain.bO (Plain.aw.1 pG);have:=Plain.ct uV.out hi;exact⟨by omega,by omega,pG⟩)
 have HPL:=lh (show ((Plain.iR g (Plain.fB p e0) y x).getD []).length<=1025 from Qi (Plain.P8 YB.out FZ.out.1 FZ.out.2) yT.out);obtain⟨l,hl⟩:∃ l,(Plain.iR g (Plain.fB p e0) y x).getD []=l:=⟨_,rfl⟩;obtain⟨bo2,afD⟩:∃ b,(Plain.iR g (Plain.fB p e0) y x).isSome=b:=⟨_,rfl⟩;rw[hl] at Cn Wa HPL ⊢;rw[afD];have am4:bn (2*(e0:Int)):=bn.mk (by omega) (by have:=j7.out.2.2.1;have:=j7.out.1;omega);have uF:(e0:Int)<=1024:=by have:=j7.out.2.2.1;have:=j7.out.1;omega
 have Na:=lh (((ai.refl [] w4).alloc (.cells #[.int .i64 (2*(e0:Int))] 3)).alloc (.cells #[.slice (some ⟨w4.heap.size,0,none⟩) 1 1,.slice o4 l.length c4] 25));have Ss:=lh ((gP w4 am4).fresh ((ai.refl [] (w4.alloc (.cells #[.int .i64 (2*(e0:Int))] 3))).alloc (.cells #[.slice (some ⟨w4.heap.size,0,none⟩) 1 1,.slice o4 l.length c4] 25)));have dL:=heap_alloc_new (w4.alloc (.cells #[.int .i64 (2*(e0:Int))] 3)) (.cells #[.slice (some ⟨w4.heap.size,0,none⟩) 1 1,.slice o4 l.length c4] 25);rw[show (w4.alloc (.cells #[.int .i64 (2*(e0:Int))] 3)).heap.size=w4.heap.size+1 by simp] at dL;have B0:=lh dL;clear hl afD dL iz x0 x1 y0 y1 g0 g1 ce
 go_wp2_with fail
 refine (xe (w4.heap.size+1) 2 2 (fun k=>if k=0 then .slice (some ⟨w4.heap.size,0,none⟩) 1 1 else .slice o4 l.length c4) [[2*(e0:Int)],l] _ rfl (by omega) (by have:=HPL.out;simp;omega) (fun k hk=>by
  rcases (show k=0\/k=1 by omega) with rfl | rfl
  ·exact⟨(cell_of_row _ _ 0 _ _ _ B0.out).trans rfl,Ss.out⟩
  exact⟨(cell_of_row _ _ 1 _ _ _ B0.out).trans rfl,(Cn.out.ints).fresh Na.out⟩)).mono ?_
 rintro e w5 ⟨v5,rfl,AA,gV⟩;rw[show ([[2*(e0:Int)],l]:List (List Int)).flatten=Plain.eY g p by rw[Wa.out];simp] at AA;have AA:=AA.base (B:=w.heap.size) ((b8.out.t uQ.out).t Na.out).size;obtain⟨o5,c5,rfl⟩:=AA.shape;have RD:=lh (show (Plain.eY g p).length<=1026 by rw[Wa.out];have:=HPL.out;simp;omega);have wR:=lh AA;have YI:=lh (show ai [] w1 w5 from (uQ.out.t Na.out).t gV);have iP:=lh (b8.out.t YI.out);obtain⟨c,hc⟩:∃ c,Plain.eY g p=c:=⟨_,rfl⟩;have kR:=lh hc;rw[hc] at TU RD wR ⊢;clear AA gV hc Cn B0 Ss Na;obtain⟨x0,x1,y0,y1,di⟩:=eE.out _ YI.out;have HZ5:=lh di
 go_wp2_with fail
 have aD:ai [] w5 w5.drew:=(ai.refl [] w5).drew;refine au (ai [] w5) [0,1,2,4,6] (Way.line [0,1,2,3,4,5,6] .done) (by kernel_rfl) (by kernel_rfl) ?_;simp only[Way.line]
 repeat
  first
   | (refine ar rfl (by rfl) (by rfl) (fun _ _ _ h=>h) aD ?_;simp only[Qa,Z1,Z2,Z3,Z4,Z5,Z6])
   | (refine aq (v:=?_) rfl (by rfl) (by rfl) (fun _ _ _ h=>h) aD (fun w' aK=>?_) ?_;rotate_left;(focus (have fU:=aK.c x0;have gX:=aK.c x1;clear aK;go_simp;try with_reducible rfl));simp only[Qa,Z1,Z2,Z3,Z4,Z5,Z6])
   | (refine ak rfl (by rfl) (by rfl) aD ?_;simp only[Qa,Z1,Z2,Z3,Z4,Z5,Z6])
 refine aC rfl (by rfl) (by rfl) (fun K hK=>?_);simp only[List.getElem_toArray,List.getElem_cons_zero,List.getElem_cons_succ];refine qR EX _ _ rfl (B:=w5.heap.size) (n:=N) (by show Qm .i64 g.n=_;rw[HN.out]) (by show Qm .i64 g.n=_;rw[HN.out]) (Nat.le_refl _) (by have:=j7.out.2.1;have:=HN.out;omega) (fun w6 h6 c6=>?_);have H6:=lh (show bK w6 w5.heap.size w5.heap.size N (fun _=>false) from AY h6);have bD:ai [] w5 w6:=aD.t c6;refine hK.out _ _ (fun _=>bD) ?_;clear hK K aD h6 c6
 try simp only[Qa,List.setIfInBounds_toArray,List.set_cons_zero,List.set_cons_succ]
 repeat
  first
   | (refine ar rfl (by rfl) (by rfl) (fun _ _ _ h=>h) bD ?_;simp only[Qa,Z1,Z2,Z3,Z4,Z5,Z6])
   | (refine aq (v:=?_) rfl (by rfl) (by rfl) (fun _ _ _ h=>h) bD (fun w' aK=>?_) ?_;rotate_left;(focus (have fU:=aK.c x0;have gX:=aK.c x1;clear aK;go_simp;try with_reducible rfl));simp only[Qa,Z1,Z2,Z3,Z4,Z5,Z6])
   | (refine ak rfl (by rfl) (by rfl) bD ?_;simp only[Qa,Z1,Z2,Z3,Z4,Z5,Z6])
 refine aC rfl (by rfl) (by rfl) (fun K hK=>?_);go_simp;have iz:=bD.alloc (.cells #[.int .i64 g.n,.slice (some ⟨eb,eB,none⟩) g.e.length cap,.slice (some ⟨w5.heap.size,0,none⟩) N N,.slice none 0 0,.slice none 0 0] 85);refine hK.out _ _ (fun _=>iz) ?_;clear hK K
 try simp only[Qa,Z1,Z2,Z3,Z4,Z5,Z6]
 repeat
  first
   | (refine ar rfl (by rfl) (by rfl) (fun _ _ _ h=>h) iz ?_;simp only[Qa,Z1,Z2,Z3,Z4,Z5,Z6])
   | (refine aq (v:=?_) rfl (by rfl) (by rfl) (fun _ _ _ h=>h) iz (fun w' aK=>?_) ?_;rotate_left;(focus (have fU:=aK.c x0;have gX:=aK.c x1;clear aK;go_simp;try with_reducible rfl));simp only[Qa,Z1,Z2,Z3,Z4,Z5,Z6])
   | (refine ak rfl (by rfl) (by rfl) iz ?_;simp only[Qa,Z1,Z2,Z3,Z4,Z5,Z6])
 refine aB ?_;have dL:=heap_alloc_new w6 (.cells #[.int .i64 g.n,.slice (some ⟨eb,eB,none⟩) g.e.length cap,.slice (some ⟨w5.heap.size,0,none⟩) N N,.slice none 0 0,.slice none 0 0] 85);have Oe:=lh dL;have H7:=lh (H6.out.aM ((ai.refl [] w6).alloc (.cells #[.int .i64 g.n,.slice (some ⟨eb,eB,none⟩) g.e.length cap,.slice (some ⟨w5.heap.size,0,none⟩) N N,.slice none 0 0,.slice none 0 0] 85)) (by simp));have Xp:=lh H6.out.lt;have amd:=lh iz;have ap0:=lh bD.size;clear dL bD iz x0 x1 y0 y1 di H6;generalize w6.alloc (.cells #[.int .i64 g.n,.slice (some ⟨eb,eB,none⟩) g.e.length cap,.slice (some ⟨w5.heap.size,0,none⟩) N N,.slice none 0 0,.slice none 0 0] 85)=w7 at *;obtain⟨sb,Ex⟩:∃ n,w6.heap.size=n:=⟨_,rfl⟩;obtain⟨ob,Bc⟩:∃ n,w5.heap.size=n:=⟨_,rfl⟩;have ze:=lh (show w.heap.size<=ob by rw[<-Bc];exact iP.out.size);have MD:=lh Bc;rw[Ex] at Oe Xp ⊢;rw[Bc] at Oe H7 Xp ⊢;have HOS:=lh (show ob<sb from Xp.out.2);clear Ex Bc
 go_wp2_with fail
 go_loopw [11,50] (fun _ k wr=>∃ i:Nat,i<=c.length/\k=.int .i64 i/\bK wr ob ob N (Plain.dt g (c.take i))/\ai [ob] w7 wr) (fun _ k _=>c.length - (intOf k).toNat)
 case atStart=>exact⟨0,Nat.zero_le _,rfl,tl H7.out (fun _ _=>rfl),ai.refl _ _⟩
 case round =>
  obtain⟨i,hi,rfl,uq,hc⟩:=hrel;have HB:=lh uq;have HC:=lh hc;have Gp:=lh (amd.out.trans hc (fun j hj=>Or.inr (by rw[Qb] at hj;have:=MD.out;omega)));have XT:=lh (YI.out.t Gp.out);have nO:=lh (b8.out.t XT.out);obtain⟨x0,x1,y0,y1,di⟩:=eE.out _ XT.out;have FB:=hc.heap Oe.out (by rw[Qb];have:=HOS.out;omega);have GU:=lh FB;clear uq hc H7;by_cases aU:i<c.length
  ·obtain⟨rb,Wx,tQ⟩:=wR.out.some (by omega)
   subst Wx;have cZ:=Gp.out.c (tQ i aU);have mm:=TU.out _ (Plain.aZ aU);have HT:=lh (Plain.Ax (g:=g) aU);obtain⟨n,hn⟩:∃ n:Nat,c.getD i 0=n:=⟨(c.getD i 0).toNat,by omega⟩;rw[hn] at cZ HT mm;have Ys:=sy.out.vr _ (sy.out.aQ mm.2.2).1;obtain⟨v,hv⟩:∃ v:Nat,g.tail (n:Int)=v:=⟨(g.tail (n:Int)).toNat,by omega⟩;rw[hv] at HT Ys;have Oj:=lh hv;have zL:v<N:=by have:=HN.out;omega
   have Tu:(v:Int)<(N:Int):=by omega
   have gL:n / 2<g.e.length:=by have:=mm.2.1;omega
   have s2:=(cell_of_row _ _ 2 _ _ _ FB).trans (show _=some (Qc (some ⟨ob,0,none⟩) N N) from rfl);have ma:c.length<=1026:=RD.out;clear tQ hn hv mm Ys FB y0 y1 di
   go_wp2_with fail
   have aD:ai [] wr wr.drew:=(ai.refl [] wr).drew;refine au (ai [] wr) [0,1,2,3,4,5,7] (Way.line [0,1,2,3,4,5,6,7,8] .done) (by kernel_rfl) (by kernel_rfl) ?_;simp only[Way.line]
   repeat
    first
     | (refine ar rfl (by rfl) (by rfl) (fun _ _ _ h=>h) aD ?_;simp only[Qa,Z1,Z2,Z3,Z4,Z5,Z6])
     | (refine aq (v:=?_) rfl (by rfl) (by rfl) (fun _ _ _ h=>h) aD (fun w' aK=>?_) ?_;rotate_left;(focus (have fU:=aK.c x0;have gX:=aK.c x1;have nP:=aK.c s2;clear aK;go_simp;try with_reducible rfl));simp only[Qa,Z1,Z2,Z3,Z4,Z5,Z6])
     | (refine ak rfl (by rfl) (by rfl) aD ?_;simp only[Qa,Z1,Z2,Z3,Z4,Z5,Z6])
   refine aC rfl (by rfl) (by rfl) (fun K hK=>?_);go_simp;refine (dy _ g n _ gL (by have:=j7.out.2.2.1;have:=j7.out.1;omega) ((HG.out.fresh nO.out).fresh aD)).mono ?_;rw[Oj.out];rintro e w9 ⟨rfl,hc9⟩;have bD:ai [] wr w9:=aD.t hc9;refine hK.out _ _ (fun _=>bD) ?_;clear hK K hc9 aD
   try simp only[Qa,Z1,Z2,Z3,Z4,Z5,Z6]
   repeat
    first
     | (refine ar rfl (by rfl) (by rfl) (fun _ _ _ h=>h) bD ?_;simp only[Qa,Z1,Z2,Z3,Z4,Z5,Z6])
     | (refine aq (v:=?_) rfl (by rfl) (by rfl) (fun _ _ _ h=>h) bD (fun w' aK=>?_) ?_;rotate_left;(focus (have fU:=aK.c x0;have gX:=aK.c x1;have nP:=aK.c s2;clear aK;go_simp;try with_reducible rfl));simp only[Qa,Z1,Z2,Z3,Z4,Z5,Z6])
     | (refine ak rfl (by rfl) (by rfl) bD ?_;simp only[Qa,Z1,Z2,Z3,Z4,Z5,Z6])
   have Ue:=HB.out.aM bD (by simp);have bc:=Ue.cell zL;have bf:=Ue.free v;refine aC rfl (by rfl) (by rfl) (fun K hK=>?_);go_simp;refine hK.out _ _ (fun h=>absurd h (Bool.eq_false_iff.1 (by kernel_rfl))) ?_;clear hK K
   try simp only[Qa,Z1,Z2,Z3,Z4,Z5,Z6]
   refine aB ?_;have h1:=Ue.set (v:=v) true;have e:(fun u=>if u=(v:Int) then true else Plain.dt g (c.take i) u)=Plain.dt g (c.take (i+1)):=funext fun u=>(HT.out u).symm;rw[e] at h1;have HH1:=lh h1;have Fg:=lh ((HC.out.t bD).trans ((ai.refl [ob] w9).setCell (p:=⟨ob,v,none⟩) (Qk (by simp)) (.bool true)) (fun j hj=>Qk hj));clear h1 e Ue bc bf bD x0 x1 s2 cZ;generalize w9.setCell ⟨ob,v,none⟩ (.bool true)=Ni at *;go_wp2
   go_roundw
   case rel=>exact⟨i+1,by omega,by go_num,HH1.out,Fg.out⟩
   case measure=>simp[intOf];omega
  have e:i=c.length:=by omega
  subst e;rw[List.take_length] at HB;have Nl:=lh (show (Plain.twins c).length=c.length from Plain.pd c);have HDT:=lh (show ∀ d∈Plain.twins c,0<=d/\d / 2<g.e.length from fun d hd=>by
   have h2:=TU.out _ (Plain.eO.1 hd);have h3:=Plain.bA d;omega)
  have HGI:=lh (nN.mk (sb:=sb) (vE:=.slice (some ⟨eb,eB,none⟩) g.e.length cap) (N:=N) (g:=g) ((cell_of_row _ _ 0 _ _ _ FB).trans rfl) ((cell_of_row _ _ 1 _ _ _ FB).trans rfl) (HG.out.fresh nO.out) HN.out Cb.out);have VC:=lh (wR.out.aM Gp.out (by simp));clear hi aU FB x0 x1 y0 y1 di
  go_wp2_with fail
  refine (nc sb N _ _ g c wr HGI.out (by have:=RD.out;omega) (fun d hd=>⟨(TU.out d hd).1,(TU.out d hd).2.1⟩) VC.out.ints).mono ?_;rintro e Fk ⟨eG,rfl,hbb1,hc11⟩;have abz:=lh hbb1;have Ow:=lh hc11;clear hbb1 hc11
  go_wp2_with fail
  refine (AO _ c Fk (by have:=RD.out;omega) (fun d hd=>by have h:=TU.out d hd;have:=j7.out.2.2.1;have:=j7.out.1;omega) (VC.out.ints.fresh Ow.out)).mono ?_;rintro e KM ⟨v12,rfl,hr12,hc12⟩;obtain⟨o12,Jz,rfl⟩:=hr12.shape;have abw:=lh hr12;have Bn:=lh (Ow.out.t hc12);have agB:=lh hc12;clear hr12 hc12
  go_wp2_with fail
  refine (nc sb N _ _ g (Plain.twins c) KM (HGI.out.fresh Bn.out) (by rw[Nl.out];have:=RD.out;omega) HDT.out abw.out.ints).mono ?_;rintro e YV ⟨fh,rfl,hbb2,hc13⟩;have aeQ:=lh hbb2;have Zd:=lh (Bn.out.t hc13);have OF:=lh hc13;clear hbb2 hc13;have qt:=(ai.refl [] YV).alloc (.cells #[.slice o5 c.length c5,.slice (some ⟨eG,0,none⟩) N N,.slice o12 (Plain.twins c).length Jz,.slice (some ⟨fh,0,none⟩) N N] 147);have HFB:=lh (World.ownsRow_lit (size:=2) (e:=147) (base:=w.heap.size) YV #[.slice o5 c.length c5,.slice (some ⟨eG,0,none⟩) N N,.slice o12 (Plain.twins c).length Jz,.slice (some ⟨fh,0,none⟩) N N] 2 ((nO.out.t Zd.out).size) (by decide) rfl);have Js:=(Zd.out.t qt).heap GU.out (by simp);have Na:=lh qt;have s3:=(cell_of_row _ _ 3 _ _ _ Js).trans (show _=some (Qc none 0 0) from rfl);have f3:=bJ Js 3;have Wn:=lh Js;have Us:=lh (Zd.out.t qt);have adK:=lh (nO.out.t Us.out);clear qt Js;obtain⟨x0,x1,y0,y1,di⟩:=eE.out _ ((XT.out.t Us.out).t ((ai.refl [] _)));have HY1:=lh y1;have acJ:w.heap.size+1<sb:=by have:=HOS.out;have:=HZ5.out;have:=MD.out;omega
  have akU:¬ w.heap.size+1=sb:=by omega
  have acC:¬ sb=w.heap.size+1:=by omega
  clear x0 x1 y0 di
  go_wp2_with fail
  clear s3 f3 y1 akU acC;obtain⟨fb,Lr⟩:∃ n,YV.heap.size=n:=⟨_,rfl⟩;rw[Lr] at HFB ⊢;generalize YV.alloc (.cells #[.slice o5 c.length c5,.slice (some ⟨eG,0,none⟩) N N,.slice o12 (Plain.twins c).length Jz,.slice (some ⟨fh,0,none⟩) N N] 147)=OH at *;have bw:ai [sb] OH (OH.setCell ⟨sb,3,none⟩ (.slice (some ⟨fb,0,none⟩) 2 2)):=(ai.refl _ OH).setCell (Qk (by simp)) _;have CM:=lh (heap_setCell_same Wn.out 3 (.slice (some ⟨fb,0,none⟩) 2 2));have R8:∀ {b:Nat} {cs:Array Value} {t:TypeId} {r:Nat × Nat},OH.heap[b]?=some (.cells cs t r)->t≠85->b ∉ [sb]:=fun {b} {cs} {t} {r} h ht e=>by
   rw[Qb] at e;rw[e,Wn.out] at h;simp at h;exact ht h.2.1.symm
  have yu:∀ {v:Value} {l:List Int} {B:Nat},ax OH B v l->∀ b∈v.ownBlock.toList,b ∉ [sb]:=fun h b hb=>by
   obtain⟨cs,r,hh⟩:=bZ h b (by rw[h.aL];exact hb);exact R8 hh (by decide)
  have uf:∀ {b n:Nat} {B:Nat} {f:Int->Bool},bK OH B b n f->b ∉ [sb]:=fun h=>by
   obtain⟨cs,hh⟩:=h.kind;exact R8 hh (by decide)
  have r1:=VC.out.aM Us.out (by simp);have r2:=(abw.out.aM (OF.out.t Na.out) (by simp)).base (B:=w.heap.size) (nO.out.t Ow.out).size;have b0:=(HB.out.base ze.out).aM Us.out (by simp);have b1:=(abz.out.base nO.out.size).aM ((agB.out.t OF.out).t Na.out) (by simp);have b2:=(aeQ.out.base (nO.out.t Bn.out).size).aM Na.out (by simp);have AW:=lh (show cR g (OH.setCell ⟨sb,3,none⟩ (.slice (some ⟨fb,0,none⟩) 2 2)) w.heap.size N (.slice (some ⟨fb,0,none⟩) 2 2) [.slice o5 c.length c5,.slice (some ⟨eG,0,none⟩) N N,.slice o12 (Plain.twins c).length Jz,.slice (some ⟨fh,0,none⟩) N N] [c,Plain.twins c] from by
   refine⟨bE HFB.out bw (fun b hb=>?_),rfl,fun i hi=>?_,fun i hi=>?_⟩
   ·rcases HFB.out.2 with ⟨q,_⟩ | ⟨g',c',cur,q,_,hh,_⟩
    ·cases q
    simp only[Qc.injEq,Qj.injEq,Addr.mk.injEq] at q;simp[Qd] at hb;rw[<-hb,q.1.1];exact R8 hh (by decide)
   ·rcases (show i=0\/i=1 by simp at hi;omega) with rfl | rfl
    ·exact r1.aM bw (yu r1)
    exact r2.aM bw (yu r2)
   rcases (show i=0\/i=1 by simp at hi;omega) with rfl | rfl
   ·exact⟨eG,rfl,b1.aM bw (uf b1)⟩
   exact⟨fh,rfl,b2.aM bw (uf b2)⟩)
  have XF:=lh (b0.aM bw (uf b0));have aiG:=lh (r1.aM bw (yu r1));have JA:=lh (adK.out.trans bw (fun j hj=>Or.inr (by rw[Qb] at hj;omega)));clear bw R8 yu uf r1 r2 b0 b1 b2 Lr;generalize OH.setCell ⟨sb,3,none⟩ (.slice (some ⟨fb,0,none⟩) 2 2)=Tv at *;have anq:=lh (nN.mk (sb:=sb) (vE:=.slice (some ⟨eb,eB,none⟩) g.e.length cap) (N:=N) (g:=g) ((cell_of_row _ _ 0 _ _ _ CM.out).trans rfl) ((cell_of_row _ _ 1 _ _ _ CM.out).trans rfl) (HG.out.fresh JA.out) HN.out Cb.out);have HQ2:=lh ((cell_of_row _ _ 2 _ _ _ CM.out).trans (show _=some (Qc (some ⟨ob,0,none⟩) N N) from rfl));have Nh:=lh ((cell_of_row _ _ 3 _ _ _ CM.out).trans (show _=some (Qc (some ⟨fb,0,none⟩) 2 2) from rfl));obtain⟨pv1,pv2,epv,-,gJ⟩:=HP.out;simp only[Ql.injEq,Array.mk.injEq,List.cons.injEq,and_true] at epv;obtain⟨rfl,rfl⟩:=epv;have hE:∀ e∈p.e,0<=e/\e<g.e.length:=fun e he=>by
   obtain⟨i,hi,rfl⟩:=Plain.bO he;have:=Plain.ct uV.out hi;exact⟨by omega,by omega⟩
  have Jh:=lh hE;refine (tV _ _ p.e c Tv (by have:=rT.out;omega) (by have:=RD.out;omega) (fun e he=>by have:=hE e he;have:=j7.out.2.2.1;have:=j7.out.1;omega) (gJ.fresh JA.out) aiG.out.ints).mono ?_;rintro e vJ ⟨v16,rfl,hr16,hc16⟩;obtain⟨o16,c16,rfl⟩:=hr16.shape;have ali:=lh hr16;have alV:=lh hc16;clear hr16 hc16 gJ hE
  go_wp2_with fail
  have ES:=oJ vJ (x:=0) (y:=1) (bn.mk (by omega) (by omega)) (bn.mk (by omega) (by omega));have Zw:=lh ES;have BD:=lh (alV.out.t ((ai.refl [] vJ).alloc (.cells #[.int .i64 0,.int .i64 1] 3)));have akE:=lh (ali.out.aM ((ai.refl [] vJ).alloc (.cells #[.int .i64 0,.int .i64 1] 3)) (by simp));clear ES;refine (yo sb ob N w.heap.size _ (.slice (some ⟨fb,0,none⟩) 2 2) _ _ g (Plain.dt g c) [c,Plain.twins c] _ (Plain.aY p.e c) [0,1] _ (anq.out.fresh BD.out) (BD.out.c HQ2.out) (XF.out.aM BD.out (by simp)) (BD.out.c Nh.out) (AW.out.fresh BD.out) (by simp) (Qi (List.length_filter_le _ _) rT.out) (fun e he=>Jh.out e (Plain.cE.1 he).1) akE.out.ints (by simp) (by simp) Zw.out).mono ?_;rintro e RW ⟨ov,ys,rfl,bh,hc18⟩;obtain⟨ro,rc3,rfl⟩:=bh.shape;have Uh:=lh (BD.out.t hc18);have ajv:=lh bh;have lK:=lh (bh.base (B:=w.heap.size) (JA.out.t BD.out).size);have J3:=Uh.out.heap CM.out (by simp);have Rp:=lh J3;have s4:=(cell_of_row _ _ 4 _ _ _ J3).trans (show _=some (Qc none 0 0) from rfl);have f4:=bJ J3 4;clear bh hc18 J3;go_wp2;go_ret;have bw:ai [sb] RW (RW.setCell ⟨sb,4,none⟩ (.slice ro (Plain.cr g (Plain.dt g c) [c,Plain.twins c] (Plain.aY p.e c) [0,1]).length rc3)):=(ai.refl _ RW).setCell (Qk (by simp)) _;have afY:=heap_setCell_same Rp.out 4 (.slice ro (Plain.cr g (Plain.dt g c) [c,Plain.twins c] (Plain.aY p.e c) [0,1]).length rc3);have R8:∀ {b:Nat} {cs:Array Value} {t:TypeId} {r:Nat × Nat},RW.heap[b]?=some (.cells cs t r)->t≠85->b ∉ [sb]:=fun {b} {cs} {t} {r} h ht e=>by
   rw[Qb] at e;rw[e,Rp.out] at h;simp at h;exact ht h.2.1.symm
  have As:=(JA.out.t Uh.out).trans bw (fun j hj=>Or.inr (by rw[Qb] at hj;omega));have uX:=AW.out.fresh Uh.out;have BV:=XF.out.aM Uh.out (by simp);have yu:∀ {v:Value} {l:List Int} {B:Nat},ax RW B v l->∀ b,v.ownBlock=some b->b ∉ [sb]:=fun h b hb=>by
   obtain⟨cs,r,hh⟩:=bZ h b (by rw[h.aL,hb];simp);exact R8 hh (by decide)
  have uf:∀ {b n:Nat} {B:Nat} {f:Int->Bool},bK RW B b n f->b ∉ [sb]:=fun h=>by
   obtain⟨cs,hh⟩:=h.kind;exact R8 hh (by decide)
  have anF:Plain.fJ g p=⟨Plain.dt g c,[c,Plain.twins c],Plain.cr g (Plain.dt g c) [c,Plain.twins c] (Plain.aY p.e c) [0,1]⟩:=by unfold Plain.fJ;rw[kR.out]
  rw[anF];have ZY:=AW.out.fresh BD.out;have ar9:=HB.out.lt.2;have av3:=abz.out.lt.1;have atH:=aeQ.out.lt.1;have av0:=Bn.out.size;have am1:Plain.qJ g p:=by
   unfold Plain.qJ;rw[XB.out,HEE.out];exact FZ.out
  have WM:=XF.out.aM BD.out (by simp);refine⟨sb,ob,_,_,_,_,ys,rfl,⟨⟨HG.out,HN.out,Cb.out,As,by omega,afY,BV.aM bw (uf BV)⟩,uX.aM bw (fun b hb=>?_) (fun k b hk hb=>?_),lK.out.other bw (fun j hj cs t r hh=>?_),⟨fun k hk hb=>?_,fun k l b hk hl hb e=>?_⟩⟩,am1,As⟩
  ·rcases uX.out.2 with ⟨q,_⟩ | ⟨g',c',cur,q,_,hh,_⟩
   ·cases q
   simp only[Qc.injEq,Qj.injEq,Addr.mk.injEq] at q;simp[Qd] at hb;rw[<-hb,q.1.1];exact R8 hh (by decide)
  ·rcases (show k=0\/k=1\/k=2\/k=3 by simp at hk;omega) with rfl | rfl | rfl | rfl
   ·exact yu (uX.row 0 (by simp)) b hb
   ·obtain⟨b',e1,e2⟩:=uX.has 0 (by simp)
    have:b=b':=by
     have h:=hb;rw[show (1:Nat)=2*0+1 from rfl,e1] at h;simp[Qd] at h;exact h.symm
    rw[this];exact uf e2
   ·exact yu (uX.row 1 (by simp)) b hb
   obtain⟨b',e1,e2⟩:=uX.has 1 (by simp);have:b=b':=by
    have h:=hb;rw[show (3:Nat)=2*1+1 from rfl,e1] at h;simp[Qd] at h;exact h.symm
   rw[this];exact uf e2
  ·rw[Qb] at hj
   rw[hj,Rp.out] at hh;simp at hh;rw[<-hh.2.1];exact⟨by decide,by decide⟩
  ·rcases (show k=0\/k=1\/k=2\/k=3 by simp at hk;omega) with rfl | rfl | rfl | rfl
   ·exact (ZY.row 0 (by simp)).dg hb |>.ne WM.dg (by decide) rfl
   ·have:eG=ob:=by simpa[Qd] using hb
    omega
   ·exact (ZY.row 1 (by simp)).dg hb |>.ne WM.dg (by decide) rfl
   have:fh=ob:=by simpa[Qd] using hb
   omega
  have h1:=ZY.kinds hk hb;have h2:=ajv.out.kind hl e;omega
end Go.Proofs.YtbkjljffnkdcjaaGreat
