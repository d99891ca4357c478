/- draw.begin: contract. Conditions: a graph, a right part with an edge that lie in memory and read so. -/
import Derived.Test.YtoiflofhcmjpoaaGreatD9Way
open List renaming mem_singleton→Qa,mem_filter→Qg
open Go.Value renaming slice→Qb,ownBlock→Qc,agg→Ql,int→Qm
open Go.Act renaming put→Qd
open Int renaming toNat_natCast→Qe
open Option renaming getD_some→Qf,map_some→Qh,some→Qj
open Nat renaming le_trans→Qi
open Or renaming inl→Qk
-- READS ONLY
namespace Go.Proofs.YtoiflofhcmjpoaaGreat
open Go.RowKit Go.Maps
namespace Plain
theorem yI {g:Gr} {p:Pt} (h:p.err g=0) (x:Int):(eY p x).err g=0:=by
 obtain⟨h1,h2,h3,h4⟩:=Pt.aA h;refine Pt.zu h1 h2 (eN h3 _) fun e he=>?_;obtain⟨i,hi,rfl⟩:=bN (Qg.1 he).1;exact h4 i hi
def eX (g:Gr) (p:Pt):List Int:=2*p.e.getD 0 0 :: (gT g (eY p (p.e.getD 0 0)) (g.at (p.e.getD 0 0)).2 (g.at (p.e.getD 0 0)).1).getD []
def mS (g:Gr) (p:Pt):Sk:=⟨du g (eX g p),[eX g p,twins (eX g p)],dt g (du g (eX g p)) [eX g p,twins (eX g p)] (aX p.e (eX g p)) [0,1]⟩
theorem Gd {g:Gr} {p:Pt} {a b:Int} (hp:p.err g=0) (h:mO g p b (dD g p (-1) b)) (hc:∀ v,dD g p (-1) b v≠none↔b9 g p (-1) b v):∀ d∈(gT g p a b).getD [],d∈p.ah:=by
 intro d hd;unfold gT at hd;have hk:=Pt.ay hp;cases hq:dD g p (-1) b a with
 | none=>rw[hq] at hd;simp at hd
 | some c =>
  rw[hq] at hd;have h0:=h.low a c hq;simp only[Qh,Qf] at hd;exact (lW hk (fun v hv=>(hk.vr v hv).1) h hc c.toNat a (by rw[hq];congr 1;omega)).2.1 d hd
def um (g:Gr) (p:Pt):Prop:=mO g (eY p (p.e.getD 0 0)) (g.at (p.e.getD 0 0)).1 (dD g (eY p (p.e.getD 0 0)) (-1) (g.at (p.e.getD 0 0)).1)/\∀ v,dD g (eY p (p.e.getD 0 0)) (-1) (g.at (p.e.getD 0 0)).1 v≠none↔b9 g (eY p (p.e.getD 0 0)) (-1) (g.at (p.e.getD 0 0)).1 v
theorem NL {g:Gr} {p:Pt} {a b:Int} (hp:p.err g=0) (h:mO g p b (dD g p (-1) b)) (hc:∀ v,dD g p (-1) b v≠none↔b9 g p (-1) b v):((gT g p a b).getD []).length<=p.v.length:=by
 unfold gT;have hk:=Pt.ay hp;cases hq:dD g p (-1) b a with
 | none=>simp
 | some c =>
  have h0:=h.low a c hq;obtain⟨-,i2,-,i4⟩:=lW hk (fun v hv=>(hk.vr v hv).1) h hc c.toNat a (by rw[hq];congr 1;omega);simp only[Qh,Qf];have:=bS i4 fun x hx=>by
   obtain⟨d,hd,rfl⟩:=List.mem_map.1 hx;exact (hk.aO (i2 d hd)).1
  simpa using this
end Plain
set_option maxRecDepth 100000 in
set_option maxHeartbeats 8000000 in
theorem J7 (vg vp:Value) (g:Plain.Gr) (p:Plain.Pt) (N:Nat) (w:World) (hr:p.err g=0) (hN:g.n=N) (sr:0<p.e.length) (hg:dJ w vg g) (hp:fL w vp p) :
  Calls Tryz.prog 82 #[vg,vp] w fun e w'=>∃ sb ob vE fv rv xs ys,e=.returned (.pointer (some ⟨sb,0,none⟩))/\Dd w w' sb ob N g vE fv rv xs ys (Plain.mS g p)/\Plain.um g p/\ag [] w w':=by
 have HR:=lh hr;have HN:=lh hN;have nN:=lh (Plain.Pt.ay hr);have iE:=lh (Plain.Gr.aA (Plain.Pt.aA hr).1);have Ar:=lh (Plain.Pt.aA hr).1;have s9:=lh (Plain.Pt.aA hr).2.2.1;have oF:=lh (show p.e.length<=1024 by have:=eT (Plain.Pt.aA hr).2.2.1;have:=(Plain.Gr.aA (Plain.Pt.aA hr).1);omega);have vH:=lh (show p.v.length<=1025 from j7 (N:=1025) nN.out.vn (fun u hu=>by have:=nN.out.vr u hu;have:=iE.out.2.1;omega));have qM:p.v.length<=100000:=by have:=vH.out;omega
 have O9:p.e.getD 0 0∈p.e:=Plain.aQ sr;have fR:=nN.out.ends _ O9;have AE:=Plain.bX s9.out sr;have TY:=lh (show Plain.eX g p=2*p.e.getD 0 0 :: (Plain.gT g (Plain.eY p (p.e.getD 0 0)) (g.at (p.e.getD 0 0)).2 (g.at (p.e.getD 0 0)).1).getD [] from rfl);have GY:=lh (Plain.yI hr (p.e.getD 0 0));have qS:=lh O9;obtain⟨e0,he⟩:∃ e0:Nat,p.e.getD 0 0=e0:=⟨(p.e.getD 0 0).toNat,by omega⟩;rw[he] at fR AE TY GY qS;have HEE:=lh he;have dU:g.at (e0:Int)=g.ends e0:=by unfold Plain.Gr.at;rw[Qe]
 rw[dU] at fR TY;have lR:e0<g.e.length:=by omega
 clear hr hN O9 he dU;obtain⟨eo,cap,ao,ac,bo,bc,rfl,rfl,HG,HP,hm,DA,sQ,Bq,uE,S4,Ko,b8,dh⟩:=lN hg hp;clear hg hp;obtain⟨x0,x1,y0,y1,dj⟩:=dh.out _ (ag.refl _ _)
 go_enter Tryz.func82,Tryz.ntmps82
 obtain⟨bb,sX,rfl,qQ⟩:=uE.out (by intro e;rw[e] at sr;simp at sr);have ce:=b8.out.dp (qQ 0 sr);rw[HEE.out,Nat.add_zero] at ce;obtain⟨eo',eP,AL,-,-,dK,hgc⟩:=HG.out;simp only[Ql.injEq,Array.mk.injEq,List.cons.injEq,Qb.injEq,true_and,and_true] at AL;obtain⟨rfl,rfl⟩:=AL;obtain⟨eb,dO,rfl,gO,cY⟩:=hgc e0 lR;obtain⟨z1,z2⟩:=dK e0 lR;have g0:=b8.out.dp gO;have g1:=b8.out.dp cY;obtain⟨x,hx⟩:∃ x,(g.ends e0).1=x:=⟨_,rfl⟩;obtain⟨y,hy⟩:∃ y,(g.ends e0).2=y:=⟨_,rfl⟩;have Vs:=lh (show (g.at (p.e.getD 0 0)).1=x by rw[HEE.out];exact (congrArg (fun n=>(g.ends n).1) (Qe e0)).trans hx);rw[hx] at g0 z1 fR TY;rw[hy] at g1 z2 fR TY;have Uq:=lh fR;clear qQ hgc dK gO cY hx hy fR;go_wp2;generalize (w.alloc (.cells #[.int .i64 g.n,.slice (some ⟨eb,dO,none⟩) g.e.length cap] 24)).alloc (.cells #[.slice ao p.v.length ac,.slice (some ⟨bb,sX,none⟩) p.e.length bc] 27)=w1 at *;clear dj;have aW:ag [] w1 w1.drew:=(ag.refl [] w1).drew;refine ar (ag [] w1) [0,1,2,4,5,6,7,8,9,10,11,12,13,14,15,17,18,19,20,21] (Way.line [0,1,2,4,5,6,7,8,9,10,11,12,13,14,15,3,16,17,18,19,20,21] .done) (by kernel_rfl) (by kernel_rfl) ?_;simp only[Way.line]
 repeat (refine ai (v:=?_) rfl (by rfl) (by rfl) (fun _ _ _ h=>h) aW (fun w' aI=>?_) ?_;rotate_left;(focus (have gB:=aI.c x0;have gQ:=aI.c x1;have np:=aI.c y0;have Hg:=aI.c y1;have rd4:=aI.c g0;have rd5:=aI.c g1;have rd6:=aI.c ce;clear aI;go_simp;try with_reducible rfl));simp only[Qd,Z1,Z2,Z3,Z4,Z5,Z6])
 refine au rfl (by rfl) (by rfl) (fun K hK=>?_);go_simp;refine (M5 _ p e0 _ (by omega) (by have:=oF.out;omega) ((HP.out.fresh b8.out).fresh aW)).mono ?_;rintro e w3 ⟨d1,d2,rfl,hpd,cT⟩;have HPD:=lh hpd;have bF:ag [] w1 w3:=aW.tr cT;refine hK.out _ _ (fun _=>bF) ?_;clear hK K cT aW hpd
 try simp only[Qd,Z1,Z2,Z3,Z4,Z5,Z6]
 repeat (refine ai (v:=?_) rfl (by rfl) (by rfl) (fun _ _ _ h=>h) bF (fun w' aI=>?_) ?_;rotate_left;(focus (have gB:=aI.c x0;have gQ:=aI.c x1;have np:=aI.c y0;have Hg:=aI.c y1;have rd4:=aI.c g0;have rd5:=aI.c g1;have rd6:=aI.c ce;clear aI;go_simp;try with_reducible rfl));simp only[Qd,Z1,Z2,Z3,Z4,Z5,Z6])
 refine au rfl (by rfl) (by rfl) (fun K hK=>?_);go_simp;refine (MM _ _ g (Plain.eY p e0) y x _ GY.out Uq.out.2 Uq.out.1 ((HG.out.fresh b8.out).fresh bF) HPD.out).mono ?_;rintro e w4 ⟨v4,rfl,ON,hpc,gR⟩;have jl:ag [] w1 w4:=bF.tr gR;have AG:=lh ON;have EA:=lh hpc;obtain⟨o4,c4,rfl⟩:=ON.shape;refine hK.out _ _ (fun _=>jl) ?_;clear hK K gR bF ON hpc
 try simp only[Qd,Z1,Z2,Z3,Z4,Z5,Z6]
 repeat (refine ai (v:=?_) rfl (by rfl) (by rfl) (fun _ _ _ h=>h) jl (fun w' aI=>?_) ?_;rotate_left;(focus (have gB:=aI.c x0;have gQ:=aI.c x1;have np:=aI.c y0;have Hg:=aI.c y1;have rd4:=aI.c g0;have rd5:=aI.c g1;have rd6:=aI.c ce;clear aI;go_simp;try with_reducible rfl));simp only[Qd,Z1,Z2,Z3,Z4,Z5,Z6])
 refine aC ?_;have sT:=lh jl;have Rm:=lh (show ∀ d∈Plain.eX g p,0<=d/\d / 2<g.e.length/\d∈p.ah from fun d hd=>by
  have sZ:d∈p.ah:=by
   rw[TY.out] at hd;rcases List.mem_cons.1 hd with r | r
   ·rw[r];exact Plain.aw.2 (by rw[show 2*(e0:Int) / 2=e0 by omega];exact qS.out)
   have h:=Plain.Gd GY.out EA.out.1 EA.out.2 d r;exact Plain.aw.2 (Qg.1 (Plain.aw.1 h)).1
  obtain⟨i,hi,e⟩:=Plain.bN (Plain.aw.1 sZ);have:=Plain.bX s9.out hi;exact⟨by omega,by omega,sZ⟩)
 have HPL:=lh (show ((Plain.gT g (Plain.eY p e0) y x).getD []).length<=1025 from Qi (Plain.NL GY.out EA.out.1 EA.out.2) vH.out);obtain⟨l,hl⟩:∃ l,(Plain.gT g (Plain.eY p e0) y x).getD []=l:=⟨_,rfl⟩;obtain⟨bo2,abT⟩:∃ b,(Plain.gT g (Plain.eY p e0) y x).isSome=b:=⟨_,rfl⟩;rw[hl] at AG TY HPL ⊢;rw[abT];have akd:aU (2*(e0:Int)):=aU.mk (by omega) (by have:=iE.out.2.2.1;have:=iE.out.1;omega);have A7:(e0:Int)<=1024:=by have:=iE.out.2.2.1;have:=iE.out.1;omega
 have Hc:=lh (((ag.refl [] w4).alloc (.cells #[.int .i64 (2*(e0:Int))] 3)).alloc (.cells #[.slice (some ⟨w4.heap.size,0,none⟩) 1 1,.slice o4 l.length c4] 25));have Pa:=lh ((fT w4 akd).fresh ((ag.refl [] (w4.alloc (.cells #[.int .i64 (2*(e0:Int))] 3))).alloc (.cells #[.slice (some ⟨w4.heap.size,0,none⟩) 1 1,.slice o4 l.length c4] 25)));have eh:=heap_alloc_new (w4.alloc (.cells #[.int .i64 (2*(e0:Int))] 3)) (.cells #[.slice (some ⟨w4.heap.size,0,none⟩) 1 1,.slice o4 l.length c4] 25);rw[show (w4.alloc (.cells #[.int .i64 (2*(e0:Int))] 3)).heap.size=w4.heap.size+1 by simp] at eh;have Ak:=lh eh;clear hl abT eh jl x0 x1 y0 y1 g0 g1 ce
 go_wp2_with fail
 refine (ur (w4.heap.size+1) 2 2 (fun k=>if k=0 then .slice (some ⟨w4.heap.size,0,none⟩) 1 1 else .slice o4 l.length c4) [[2*(e0:Int)],l] _ rfl (by omega) (by have:=HPL.out;simp;omega) (fun k hk=>by
  rcases (show k=0\/k=1 by omega) with rfl | rfl
  ·exact⟨(cell_of_row _ _ 0 _ _ _ Ak.out).trans rfl,Pa.out⟩
  exact⟨(cell_of_row _ _ 1 _ _ _ Ak.out).trans rfl,(AG.out.ints).fresh Hc.out⟩)).mono ?_
 rintro e w5 ⟨v5,rfl,pf,eO⟩;rw[show ([[2*(e0:Int)],l]:List (List Int)).flatten=Plain.eX g p by rw[TY.out];simp] at pf;have pf:=pf.base (B:=w.heap.size) ((b8.out.tr sT.out).tr Hc.out).size;obtain⟨o5,c5,rfl⟩:=pf.shape;have M9:=lh (show (Plain.eX g p).length<=1026 by rw[TY.out];have:=HPL.out;simp;omega);have uk:=lh pf;have VV:=lh (show ag [] w1 w5 from (sT.out.tr Hc.out).tr eO);have ga:=lh (b8.out.tr VV.out);obtain⟨c,hc⟩:∃ c,Plain.eX g p=c:=⟨_,rfl⟩;have j9:=lh hc;rw[hc] at Rm M9 uk ⊢;clear pf eO hc AG Ak Pa Hc;obtain⟨x0,x1,y0,y1,dj⟩:=dh.out _ VV.out;have HZ5:=lh dj
 go_wp2_with fail
 have aW:ag [] w5 w5.drew:=(ag.refl [] w5).drew;refine ar (ag [] w5) [0,1,2,4,6] (Way.line [0,1,2,3,4,5,6] .done) (by kernel_rfl) (by kernel_rfl) ?_;simp only[Way.line]
 repeat (refine ai (v:=?_) rfl (by rfl) (by rfl) (fun _ _ _ h=>h) aW (fun w' aI=>?_) ?_;rotate_left;(focus (have gB:=aI.c x0;have gQ:=aI.c x1;clear aI;go_simp;try with_reducible rfl));simp only[Qd,Z1,Z2,Z3,Z4,Z5,Z6])
 refine au rfl (by rfl) (by rfl) (fun K hK=>?_);simp only[List.getElem_toArray,List.getElem_cons_zero,List.getElem_cons_succ];refine qd Dl _ _ rfl (B:=w5.heap.size) (n:=N) (by show Qm .i64 g.n=_;rw[HN.out]) (by show Qm .i64 g.n=_;rw[HN.out]) (Nat.le_refl _) (by have:=iE.out.2.1;have:=HN.out;omega) (fun w6 h6 c6=>?_);have H6:=lh (show bD w6 w5.heap.size w5.heap.size N (fun _=>false) from yw h6);have bF:ag [] w5 w6:=aW.tr c6;refine hK.out _ _ (fun _=>bF) ?_;clear hK K aW h6 c6
 try simp only[Qd,List.setIfInBounds_toArray,List.set_cons_zero,List.set_cons_succ]
 repeat (refine ai (v:=?_) rfl (by rfl) (by rfl) (fun _ _ _ h=>h) bF (fun w' aI=>?_) ?_;rotate_left;(focus (have gB:=aI.c x0;have gQ:=aI.c x1;clear aI;go_simp;try with_reducible rfl));simp only[Qd,Z1,Z2,Z3,Z4,Z5,Z6])
 refine au rfl (by rfl) (by rfl) (fun K hK=>?_);go_simp;have jl:=bF.alloc (.cells #[.int .i64 g.n,.slice (some ⟨eb,dO,none⟩) g.e.length cap,.slice (some ⟨w5.heap.size,0,none⟩) N N,.slice none 0 0,.slice none 0 0] 113);refine hK.out _ _ (fun _=>jl) ?_;clear hK K
 try simp only[Qd,Z1,Z2,Z3,Z4,Z5,Z6]
 repeat (refine ai (v:=?_) rfl (by rfl) (by rfl) (fun _ _ _ h=>h) jl (fun w' aI=>?_) ?_;rotate_left;(focus (have gB:=aI.c x0;have gQ:=aI.c x1;clear aI;go_simp;try with_reducible rfl));simp only[Qd,Z1,Z2,Z3,Z4,Z5,Z6])
 refine aC ?_;have eh:=heap_alloc_new w6 (.cells #[.int .i64 g.n,.slice (some ⟨eb,dO,none⟩) g.e.length cap,.slice (some ⟨w5.heap.size,0,none⟩) N N,.slice none 0 0,.slice none 0 0] 113);have LN:=lh eh;have H7:=lh (H6.out.aD ((ag.refl [] w6).alloc (.cells #[.int .i64 g.n,.slice (some ⟨eb,dO,none⟩) g.e.length cap,.slice (some ⟨w5.heap.size,0,none⟩) N N,.slice none 0 0,.slice none 0 0] 113)) (by simp));have Wj:=lh H6.out.lt;have ahf:=lh jl;have ang:=lh bF.size;clear eh bF jl x0 x1 y0 y1 dj H6;generalize w6.alloc (.cells #[.int .i64 g.n,.slice (some ⟨eb,dO,none⟩) g.e.length cap,.slice (some ⟨w5.heap.size,0,none⟩) N N,.slice none 0 0,.slice none 0 0] 113)=w7 at *;obtain⟨sb,Gf⟩:∃ n,w6.heap.size=n:=⟨_,rfl⟩;obtain⟨ob,qz⟩:∃ n,w5.heap.size=n:=⟨_,rfl⟩;have wZ:=lh (show w.heap.size<=ob by rw[<-qz];exact ga.out.size);have Ew:=lh qz;rw[Gf] at LN Wj ⊢;rw[qz] at LN H7 Wj ⊢;have HOS:=lh (show ob<sb from Wj.out.2);clear Gf qz
 go_wp2_with fail
 go_loopw [11,50] (fun _ k wr=>∃ i:Nat,i<=c.length/\k=.int .i64 i/\bD wr ob ob N (Plain.du g (c.take i))/\ag [ob] w7 wr) (fun _ k _=>c.length - (intOf k).toNat)
 case atStart=>exact⟨0,Nat.zero_le _,rfl,rF H7.out (fun _ _=>rfl),ag.refl _ _⟩
 case round =>
  obtain⟨i,hi,rfl,sw,hc⟩:=hrel;have HB:=lh sw;have HC:=lh hc;have DR:=lh (ahf.out.trans hc (fun j hj=>Or.inr (by rw[Qa] at hj;have:=Ew.out;omega)));have VY:=lh (VV.out.tr DR.out);have mH:=lh (b8.out.tr VY.out);obtain⟨x0,x1,y0,y1,dj⟩:=dh.out _ VY.out;have Dr:=hc.heap LN.out (by rw[Qa];have:=HOS.out;omega);have Gp:=lh Dr;clear sw hc H7;by_cases aL:i<c.length
  ·obtain⟨rb,TE,sC⟩:=uk.out.some (by omega)
   subst TE;have cz:=DR.out.dp (sC i aL);have mj:=Rm.out _ (Plain.aQ aL);have HT:=lh (Plain.xU (g:=g) aL);obtain⟨n,hn⟩:∃ n:Nat,c.getD i 0=n:=⟨(c.getD i 0).toNat,by omega⟩;rw[hn] at cz HT mj;have Xl:=nN.out.vr _ (nN.out.aO mj.2.2).1;obtain⟨v,hv⟩:∃ v:Nat,g.tail (n:Int)=v:=⟨(g.tail (n:Int)).toNat,by omega⟩;rw[hv] at HT Xl;have LW:=lh hv;have tq:v<N:=by have:=HN.out;omega
   have OR:(v:Int)<(N:Int):=by omega
   have iI:n / 2<g.e.length:=by have:=mj.2.1;omega
   have s2:=(cell_of_row _ _ 2 _ _ _ Dr).trans (show _=some (Qb (some ⟨ob,0,none⟩) N N) from rfl);have mm:c.length<=1026:=M9.out;clear sC hn hv mj Xl Dr y0 y1 dj
   go_wp2_with fail
   have aW:ag [] wr wr.drew:=(ag.refl [] wr).drew;refine ar (ag [] wr) [0,1,2,3,4,5,7] (Way.line [0,1,2,3,4,5,6,7,8] .done) (by kernel_rfl) (by kernel_rfl) ?_;simp only[Way.line]
   repeat (refine ai (v:=?_) rfl (by rfl) (by rfl) (fun _ _ _ h=>h) aW (fun w' aI=>?_) ?_;rotate_left;(focus (have gB:=aI.c x0;have gQ:=aI.c x1;have np:=aI.c s2;clear aI;go_simp;try with_reducible rfl));simp only[Qd,Z1,Z2,Z3,Z4,Z5,Z6])
   refine au rfl (by rfl) (by rfl) (fun K hK=>?_);go_simp;refine (cO _ g n _ iI (by have:=iE.out.2.2.1;have:=iE.out.1;omega) ((HG.out.fresh mH.out).fresh aW)).mono ?_;rw[LW.out];rintro e w9 ⟨rfl,hc9⟩;have bF:ag [] wr w9:=aW.tr hc9;refine hK.out _ _ (fun _=>bF) ?_;clear hK K hc9 aW
   try simp only[Qd,Z1,Z2,Z3,Z4,Z5,Z6]
   repeat (refine ai (v:=?_) rfl (by rfl) (by rfl) (fun _ _ _ h=>h) bF (fun w' aI=>?_) ?_;rotate_left;(focus (have gB:=aI.c x0;have gQ:=aI.c x1;have np:=aI.c s2;clear aI;go_simp;try with_reducible rfl));simp only[Qd,Z1,Z2,Z3,Z4,Z5,Z6])
   have Sr:=HB.out.aD bF (by simp);have bc:=Sr.cell tq;have bf:=Sr.free v;refine au rfl (by rfl) (by rfl) (fun K hK=>?_);go_simp;refine hK.out _ _ (fun h=>absurd h (Bool.eq_false_iff.1 (by kernel_rfl))) ?_;clear hK K
   try simp only[Qd,Z1,Z2,Z3,Z4,Z5,Z6]
   refine aC ?_;have h1:=Sr.set (v:=v) true;have e:(fun u=>if u=(v:Int) then true else Plain.du g (c.take i) u)=Plain.du g (c.take (i+1)):=funext fun u=>(HT.out u).symm;rw[e] at h1;have HH1:=lh h1;have AN:=lh ((HC.out.tr bF).trans ((ag.refl [ob] w9).setCell (p:=⟨ob,v,none⟩) (Qk (by simp)) (.bool true)) (fun j hj=>Qk hj));clear h1 e Sr bc bf bF x0 x1 s2 cz;generalize w9.setCell ⟨ob,v,none⟩ (.bool true)=OL at *;go_wp2
   go_roundw
   case rel=>exact⟨i+1,by omega,by go_num,HH1.out,AN.out⟩
   case measure=>simp[intOf];omega
  have e:i=c.length:=by omega
  subst e;rw[List.take_length] at HB;have Hx:=lh (show (Plain.twins c).length=c.length from Plain.nz c);have HDT:=lh (show ∀ d∈Plain.twins c,0<=d/\d / 2<g.e.length from fun d hd=>by
   have h2:=Rm.out _ (Plain.jn.1 hd);have h3:=Plain.dP d;omega)
  have XG:=lh (mM.mk (sb:=sb) (vE:=.slice (some ⟨eb,dO,none⟩) g.e.length cap) (N:=N) (g:=g) ((cell_of_row _ _ 0 _ _ _ Dr).trans rfl) ((cell_of_row _ _ 1 _ _ _ Dr).trans rfl) (HG.out.fresh mH.out) HN.out Ar.out);have Tk:=lh (uk.out.aD DR.out (by simp));clear hi aL Dr x0 x1 y0 y1 dj
  go_wp2_with fail
  refine (lF sb N _ _ g c wr XG.out (by have:=M9.out;omega) (fun d hd=>⟨(Rm.out d hd).1,(Rm.out d hd).2.1⟩) Tk.out.ints).mono ?_;rintro e G1 ⟨fz,rfl,hbb1,hc11⟩;have abf:=lh hbb1;have Wk:=lh hc11;clear hbb1 hc11
  go_wp2_with fail
  refine (xH _ c G1 (by have:=M9.out;omega) (fun d hd=>by have h:=Rm.out d hd;have:=iE.out.2.2.1;have:=iE.out.1;omega) (Tk.out.ints.fresh Wk.out)).mono ?_;rintro e Jq ⟨v12,rfl,hr12,hc12⟩;obtain⟨o12,GF,rfl⟩:=hr12.shape;have ab4:=lh hr12;have zW:=lh (Wk.out.tr hc12);have aaD:=lh hc12;clear hr12 hc12
  go_wp2_with fail
  refine (lF sb N _ _ g (Plain.twins c) Jq (XG.out.fresh zW.out) (by rw[Hx.out];have:=M9.out;omega) HDT.out ab4.out.ints).mono ?_;rintro e VP ⟨ff,rfl,hbb2,hc13⟩;have abz:=lh hbb2;have Vw:=lh (zW.out.tr hc13);have Mu:=lh hc13;clear hbb2 hc13;have kU:=(ag.refl [] VP).alloc (.cells #[.slice o5 c.length c5,.slice (some ⟨fz,0,none⟩) N N,.slice o12 (Plain.twins c).length GF,.slice (some ⟨ff,0,none⟩) N N] 158);have HFB:=lh (World.ownsRow_lit (size:=2) (e:=158) (base:=w.heap.size) VP #[.slice o5 c.length c5,.slice (some ⟨fz,0,none⟩) N N,.slice o12 (Plain.twins c).length GF,.slice (some ⟨ff,0,none⟩) N N] 2 ((mH.out.tr Vw.out).size) (by decide) rfl);have GI:=(Vw.out.tr kU).hp Gp.out;have Hc:=lh kU;have s3:=(cell_of_row _ _ 3 _ _ _ GI).trans (show _=some (Qb none 0 0) from rfl);have f3:=bJ GI 3;have UD:=lh GI;have RE:=lh (Vw.out.tr kU);have aat:=lh (mH.out.tr RE.out);clear kU GI;obtain⟨x0,x1,y0,y1,dj⟩:=dh.out _ ((VY.out.tr RE.out).tr ((ag.refl [] _)));have HY1:=lh y1;have adn:w.heap.size+1<sb:=by have:=HOS.out;have:=HZ5.out;have:=Ew.out;omega
  have ajY:¬ w.heap.size+1=sb:=by omega
  have ab8:¬ sb=w.heap.size+1:=by omega
  clear x0 x1 y0 dj
  go_wp2_with fail
  clear s3 f3 y1 ajY ab8;obtain⟨fb,JM⟩:∃ n,VP.heap.size=n:=⟨_,rfl⟩;rw[JM] at HFB ⊢;generalize VP.alloc (.cells #[.slice o5 c.length c5,.slice (some ⟨fz,0,none⟩) N N,.slice o12 (Plain.twins c).length GF,.slice (some ⟨ff,0,none⟩) N N] 158)=Mf at *;have aZ:ag [sb] Mf (Mf.setCell ⟨sb,3,none⟩ (.slice (some ⟨fb,0,none⟩) 2 2)):=(ag.refl _ Mf).setCell (Qk (by simp)) _;have Da:=lh (heap_setCell_same UD.out 3 (.slice (some ⟨fb,0,none⟩) 2 2));have RU:∀ {b:Nat} {cs:Array Value} {t:TypeId} {r:Nat × Nat},Mf.heap[b]?=some (.cells cs t r)->t≠113->b ∉ [sb]:=fun {b} {cs} {t} {r} h ht e=>by
   rw[Qa] at e;rw[e,UD.out] at h;simp at h;exact ht h.2.1.symm
  have uI:∀ {v:Value} {l:List Int} {B:Nat},aj Mf B v l->∀ b∈v.ownBlock.toList,b ∉ [sb]:=fun h b hb=>by
   obtain⟨cs,r,hh⟩:=bR h b (by rw[h.aE];exact hb);exact RU hh (by decide)
  have sh:∀ {b n:Nat} {B:Nat} {f:Int->Bool},bD Mf B b n f->b ∉ [sb]:=fun h=>by
   obtain⟨cs,hh⟩:=h.kind;exact RU hh (by decide)
  have r1:=Tk.out.aD RE.out (by simp);have r2:=(ab4.out.aD (Mu.out.tr Hc.out) (by simp)).base (B:=w.heap.size) (mH.out.tr Wk.out).size;have b0:=(HB.out.base wZ.out).aD RE.out (by simp);have b1:=(abf.out.base mH.out.size).aD ((aaD.out.tr Mu.out).tr Hc.out) (by simp);have b2:=(abz.out.base (mH.out.tr zW.out).size).aD Hc.out (by simp);have yc:=lh (show cG g (Mf.setCell ⟨sb,3,none⟩ (.slice (some ⟨fb,0,none⟩) 2 2)) w.heap.size N (.slice (some ⟨fb,0,none⟩) 2 2) [.slice o5 c.length c5,.slice (some ⟨fz,0,none⟩) N N,.slice o12 (Plain.twins c).length GF,.slice (some ⟨ff,0,none⟩) N N] [c,Plain.twins c] from by
   refine⟨aY HFB.out aZ (fun b hb=>?_),rfl,fun i hi=>?_,fun i hi=>?_⟩
   ·rcases HFB.out.2 with ⟨q,_⟩ | ⟨g',c',cur,q,_,hh,_⟩
    ·cases q
    simp only[Qb.injEq,Qj.injEq,Addr.mk.injEq] at q;simp[Qc] at hb;rw[<-hb,q.1.1];exact RU hh (by decide)
   ·rcases (show i=0\/i=1 by simp at hi;omega) with rfl | rfl
    ·exact r1.aD aZ (uI r1)
    exact r2.aD aZ (uI r2)
   rcases (show i=0\/i=1 by simp at hi;omega) with rfl | rfl
   ·exact⟨fz,rfl,b1.aD aZ (sh b1)⟩
   exact⟨ff,rfl,b2.aD aZ (sh b2)⟩)
  have Wm:=lh (b0.aD aZ (sh b0));have agk:=lh (r1.aD aZ (uI r1));have Hp:=lh (aat.out.trans aZ (fun j hj=>Or.inr (by rw[Qa] at hj;omega)));clear aZ RU uI sh r1 r2 b0 b1 b2 JM;generalize Mf.setCell ⟨sb,3,none⟩ (.slice (some ⟨fb,0,none⟩) 2 2)=PA at *;have agf:=lh (mM.mk (sb:=sb) (vE:=.slice (some ⟨eb,dO,none⟩) g.e.length cap) (N:=N) (g:=g) ((cell_of_row _ _ 0 _ _ _ Da.out).trans rfl) ((cell_of_row _ _ 1 _ _ _ Da.out).trans rfl) (HG.out.fresh Hp.out) HN.out Ar.out);have HQ2:=lh ((cell_of_row _ _ 2 _ _ _ Da.out).trans (show _=some (Qb (some ⟨ob,0,none⟩) N N) from rfl));have KS:=lh ((cell_of_row _ _ 3 _ _ _ Da.out).trans (show _=some (Qb (some ⟨fb,0,none⟩) 2 2) from rfl));obtain⟨pv1,pv2,epv,-,dm⟩:=HP.out;simp only[Ql.injEq,Array.mk.injEq,List.cons.injEq,and_true] at epv;obtain⟨rfl,rfl⟩:=epv;have hE:∀ e∈p.e,0<=e/\e<g.e.length:=fun e he=>by
   obtain⟨i,hi,rfl⟩:=Plain.bN he;have:=Plain.bX s9.out hi;exact⟨by omega,by omega⟩
  have GX:=lh hE;refine (sa _ _ p.e c PA (by have:=oF.out;omega) (by have:=M9.out;omega) (fun e he=>by have:=hE e he;have:=iE.out.2.2.1;have:=iE.out.1;omega) (dm.fresh Hp.out) agk.out.ints).mono ?_;rintro e tz ⟨v16,rfl,hr16,hc16⟩;obtain⟨o16,c16,rfl⟩:=hr16.shape;have agZ:=lh hr16;have akx:=lh hc16;clear hr16 hc16 dm hE
  go_wp2_with fail
  have Cg:=nw tz (x:=0) (y:=1) (aU.mk (by omega) (by omega)) (aU.mk (by omega) (by omega));have We:=lh Cg;have z8:=lh (akx.out.tr ((ag.refl [] tz).alloc (.cells #[.int .i64 0,.int .i64 1] 3)));have agd:=lh (agZ.out.aD ((ag.refl [] tz).alloc (.cells #[.int .i64 0,.int .i64 1] 3)) (by simp));clear Cg;refine (vT sb ob N w.heap.size _ (.slice (some ⟨fb,0,none⟩) 2 2) _ _ g (Plain.du g c) [c,Plain.twins c] _ (Plain.aX p.e c) [0,1] _ (agf.out.fresh z8.out) (z8.out.dp HQ2.out) (Wm.out.aD z8.out (by simp)) (z8.out.dp KS.out) (yc.out.fresh z8.out) (by simp) (Qi (List.length_filter_le _ _) oF.out) (fun e he=>GX.out e (Plain.cP.1 he).1) agd.out.ints (by simp) (by simp) We.out).mono ?_;rintro e OS ⟨ov,ys,rfl,bh,hc18⟩;obtain⟨ro,rc3,rfl⟩:=bh.shape;have Tb:=lh (z8.out.tr hc18);have akk:=lh bh;have jg:=lh (bh.base (B:=w.heap.size) (Hp.out.tr z8.out).size);have Ib:=Tb.out.hp Da.out;have Lz:=lh Ib;have s4:=(cell_of_row _ _ 4 _ _ _ Ib).trans (show _=some (Qb none 0 0) from rfl);have f4:=bJ Ib 4;clear bh hc18 Ib;go_wp2;go_ret;have aZ:ag [sb] OS (OS.setCell ⟨sb,4,none⟩ (.slice ro (Plain.dt g (Plain.du g c) [c,Plain.twins c] (Plain.aX p.e c) [0,1]).length rc3)):=(ag.refl _ OS).setCell (Qk (by simp)) _;have abB:=heap_setCell_same Lz.out 4 (.slice ro (Plain.dt g (Plain.du g c) [c,Plain.twins c] (Plain.aX p.e c) [0,1]).length rc3);have RU:∀ {b:Nat} {cs:Array Value} {t:TypeId} {r:Nat × Nat},OS.heap[b]?=some (.cells cs t r)->t≠113->b ∉ [sb]:=fun {b} {cs} {t} {r} h ht e=>by
   rw[Qa] at e;rw[e,Lz.out] at h;simp at h;exact ht h.2.1.symm
  have Rh:=(Hp.out.tr Tb.out).trans aZ (fun j hj=>Or.inr (by rw[Qa] at hj;omega));have Ef:=yc.out.fresh Tb.out;have Hs:=Wm.out.aD Tb.out (by simp);have uI:∀ {v:Value} {l:List Int} {B:Nat},aj OS B v l->∀ b,v.ownBlock=some b->b ∉ [sb]:=fun h b hb=>by
   obtain⟨cs,r,hh⟩:=bR h b (by rw[h.aE,hb];simp);exact RU hh (by decide)
  have sh:∀ {b n:Nat} {B:Nat} {f:Int->Bool},bD OS B b n f->b ∉ [sb]:=fun h=>by
   obtain⟨cs,hh⟩:=h.kind;exact RU hh (by decide)
  have aje:Plain.mS g p=⟨Plain.du g c,[c,Plain.twins c],Plain.dt g (Plain.du g c) [c,Plain.twins c] (Plain.aX p.e c) [0,1]⟩:=by unfold Plain.mS;rw[j9.out]
  rw[aje];have WV:=yc.out.fresh z8.out;have asj:=HB.out.lt.2;have atv:=abf.out.lt.1;have asb:=abz.out.lt.1;have asJ:=zW.out.size;have afW:Plain.um g p:=by
   unfold Plain.um;rw[Vs.out,HEE.out];exact EA.out
  have Ud:=Wm.out.aD z8.out (by simp);refine⟨sb,ob,_,_,_,_,ys,rfl,⟨⟨HG.out,HN.out,Ar.out,Rh,by omega,abB,Hs.aD aZ (sh Hs)⟩,Ef.aD aZ (fun b hb=>?_) (fun k b hk hb=>?_),jg.out.other aZ (fun j hj cs t r hh=>?_),⟨fun k hk hb=>?_,fun k l b hk hl hb e=>?_⟩⟩,afW,Rh⟩
  ·rcases Ef.out.2 with ⟨q,_⟩ | ⟨g',c',cur,q,_,hh,_⟩
   ·cases q
   simp only[Qb.injEq,Qj.injEq,Addr.mk.injEq] at q;simp[Qc] at hb;rw[<-hb,q.1.1];exact RU hh (by decide)
  ·rcases (show k=0\/k=1\/k=2\/k=3 by simp at hk;omega) with rfl | rfl | rfl | rfl
   ·exact uI (Ef.row 0 (by simp)) b hb
   ·obtain⟨b',e1,e2⟩:=Ef.has 0 (by simp)
    have:b=b':=by
     have h:=hb;rw[show (1:Nat)=2*0+1 from rfl,e1] at h;simp[Qc] at h;exact h.symm
    rw[this];exact sh e2
   ·exact uI (Ef.row 1 (by simp)) b hb
   obtain⟨b',e1,e2⟩:=Ef.has 1 (by simp);have:b=b':=by
    have h:=hb;rw[show (3:Nat)=2*1+1 from rfl,e1] at h;simp[Qc] at h;exact h.symm
   rw[this];exact sh e2
  ·rw[Qa] at hj
   rw[hj,Lz.out] at hh;simp at hh;rw[<-hh.2.1];exact⟨by decide,by decide⟩
  ·rcases (show k=0\/k=1\/k=2\/k=3 by simp at hk;omega) with rfl | rfl | rfl | rfl
   ·exact (WV.row 0 (by simp)).cA hb |>.ne Ud.cA (by decide) rfl
   ·have:fz=ob:=by simpa[Qc] using hb
    omega
   ·exact (WV.row 1 (by simp)).cA hb |>.ne Ud.cA (by decide) rfl
   have:ff=ob:=by simpa[Qc] using hb
   omega
  have h1:=WV.kinds hk hb;have h2:=akk.out.kind hl e;omega
end Go.Proofs.YtoiflofhcmjpoaaGreat
