/- draw.put: contract. Conditions: a sketch of the call's own that keeps to what sketches keep to; a scrap of it that fits in a face. -/
import Derived.Test.YtoiflofhcmjpoaaGreatD9RingOk
open List renaming mem_singleton→Qa,length_append→Qe,length_drop→Qg,mem_append→Qh,getElem_cons_zero→Qj,getElem_cons_succ→Qk,mem_cons→Ql,getElem_toArray→Qm,setIfInBounds_toArray→Qn,length_take→Qo,mem_flatMap→Qp,mem_of_mem_drop→Qq,mem_of_mem_take→Qr,mem_range→Qt,set_cons_zero→Qu,set_cons_succ→Qv,getD→Qx,length_eraseIdx_le→Qy,length_set→Qz,length_filter_le→QA,range→QE
open Go.Act renaming put→Qb
open Nat renaming le_trans→Qc,mul_comm→Qs,zero_le→QD
open Go.Value renaming ownBlock→Qd,slice→QB,agg→QF,int→QG
open Or renaming inl→Qf,inr→Qw
open Bool renaming eq_false_iff→Qi
open Option renaming some→QC
-- READS ONLY
namespace Go.Proofs.YtoiflofhcmjpoaaGreat
open Go.RowKit Go.Maps
theorem xJ {w:World} {B g n c k:Nat} {l:List Int} (h:aj w B (.slice (some ⟨g,0,none⟩) n c) l) (hk:k<=l.length):al w (.slice (some ⟨g,k,none⟩) (n - k) (c - k)) (l.drop k):=by
 obtain⟨rfl,-⟩:=ns h;have hm:=h.2.2;refine⟨_,c - k,by rw[Qg],fun x hx=>h.2.1 x (Qq hx),by rw[Qg];omega,fun bh=>⟨g,k,rfl,fun i hi=>?_⟩⟩;rw[Qg] at hi;obtain⟨g',e,hc⟩:=h.some (by omega);simp only[QC.injEq,Addr.mk.injEq,and_true] at e;subst e;rw[hc (k+i) (by omega)];simp[Qx,List.getElem?_drop]
theorem yT {w:World} {B g n c k:Nat} {l:List Int} (h:aj w B (.slice (some ⟨g,0,none⟩) n c) l) (hk:k<=l.length):al w (.slice (some ⟨g,0,none⟩) k c) (l.take k):=by
 obtain⟨rfl,-⟩:=ns h;have hm:=h.2.2;have hl:(l.take k).length=k:=by rw[Qo];omega
 refine⟨_,c,by rw[hl],fun x hx=>h.2.1 x (Qr hx),by rw[hl];omega,fun bh=>⟨g,0,rfl,fun i hi=>?_⟩⟩;rw[hl] at hi;obtain⟨g',e,hc⟩:=h.some (by omega);simp only[QC.injEq,Addr.mk.injEq,and_true] at e;subst e;rw[Nat.zero_add,hc i (by omega)];simp[Qx,hi]
namespace Plain
theorem KF (g:Gr) (on:Int->Bool) (w:List Int) (v:Int):on v=jO g on (w.take 0) v:=by simp[jO]
theorem IP {g:Gr} {on:Int->Bool} {w:List Int} {k:Nat} (hk:k<w.length) (v:Int):jO g on (w.take (k+1)) v=if v=g.tail (w.getD k 0) then true else jO g on (w.take k) v:=by
 have e:w.take (k+1)=w.take k++[w.getD k 0]:=by
  rw[List.take_add_one];simp[Qx,hk]
 unfold jO;rw[e,List.any_append];by_cases q:v=g.tail (w.getD k 0)
 ·rw[if_pos q]
  simp[q]
 rw[if_neg q];have:decide (g.tail (w.getD k 0)=v)=false:=decide_eq_false fun r=>q r.symm;simp only[List.any_cons,List.any_nil,this,Bool.or_false]
theorem KI {g:Gr} {on:Int->Bool} {F:List (List Int)} {E ks:List Int} (hE:E.Nodup):(dt g on F E ks).length<=E.length:=by
 have h:=(lV (g:=g) (on:=on) (F:=F) (ks:=ks) hE).length_eq;rw[<-h];refine kW (f:=fun c:a8=>c.aq) fun c hc=>?_;obtain⟨l,hl,rfl⟩:=List.mem_map.1 hc;exact (lH (gw g on E).ok hl).1
theorem I5 {w:List Int} (h:w≠[]):w.getD (w.length - 1) 0=w.getLastD 0/\w.getLastD 0∈w:=by
 rcases List.eq_nil_or_concat w with r | ⟨m,e,r⟩
 ·exact absurd r h
 rw[List.concat_eq_append] at r;subst r;rw[List.getLastD_eq_getLast?];simp[Qx]
end Plain
set_option maxRecDepth 100000 in
set_option maxHeartbeats 8000000 in
theorem IA (w0 w:World) (sb ob N i:Nat) (vE fv rv:Value) (xs ys:List Value) (g:Plain.Gr) (b:Plain.Pt) (s:Plain.Sk) (p:Plain.Pt) (aa:List (List Int)) (hO:Dd w0 w sb ob N g vE fv rv xs ys s) (hb:b.err g=0) (iL:Plain.zQ g b s p aa) (hi:i<s.rest.length) (hf:(s.rest.getD i ⟨[],[],[]⟩).ak≠[]) :
  Calls Tryz.prog 84 #[.pointer (some ⟨sb,0,none⟩),.int .i64 i] w fun e w'=>e=.returned (.tuple #[])/\∃ Yh YJ xs' ys',Dd w0 w' sb ob N g vE Yh YJ xs' ys' (s.put g b.v i):=by
 obtain⟨a,z,f,wy,old,hP⟩:=Plain.JD hb hO.base.n iL hi hf;have Rl:=lh (fun k j o h1 h2 h3=>Plain.Wb (k:=k) (j:=j) (o:=o) hP h1 h2 h3);have HP:=lh hP;have HB:=lh hO.base;have yc:=lh hO.ak;have ZL:=lh hO.far;have fZ:=lh hO.base.wL.small;have q4:=hO.base.q4;have yP:s.rest.length<=1024:=hP.rl;obtain⟨rb,rc,Kd⟩:=hO.rest.some (by omega);subst Kd;have s9:=lh hO.rest;have mm:=hO.rest.cells;obtain⟨t0,t1,t2⟩:=zK hi;have c0:=hO.rest.cell (k:=3*i) (by omega);have c1:=hO.rest.cell (k:=3*i+1) (by omega);have c2:=hO.rest.cell (k:=3*i+2) (by omega);have r0:=hO.rest.row t0;have r1:=hO.rest.row t1;have r2:=hO.rest.row t2;obtain⟨v0,e0⟩:∃ v,ys.getD (3*i) undef=v:=⟨_,rfl⟩;obtain⟨v1,e1⟩:∃ v,ys.getD (3*i+1) undef=v:=⟨_,rfl⟩;obtain⟨v2,e2⟩:∃ v,ys.getD (3*i+2) undef=v:=⟨_,rfl⟩;have Zv:=lh e0;rw[Qs 3 i] at c0 c1 c2;rw[Qs 3 i] at e0 e1 e2 r0 r1 r2;rw[e0] at c0 r0;rw[e1] at c1 r1;rw[e2] at c2 r2;obtain⟨c,hc⟩:∃ c,s.rest.getD i ⟨[],[],[]⟩=c:=⟨_,rfl⟩;have HC:=lh hc;rw[hc] at HP Rl r0 r1 r2 hP;obtain⟨o0,p0,rfl⟩:=r0.shape;obtain⟨o1,p1,rfl⟩:=r1.shape;obtain⟨o2,p2,rfl⟩:=r2.shape;have Xq:=lh r0;have UK:=lh r1;have yH:=lh r2;have Sh:(i:Int)<(s.rest.length:Int):=by omega
 have wi:IntKind.i64.wrap ((i:Int)+1)=(i:Int)+1:=IntWalk.i64_in _ (by omega)
 -- the blocks that may aa
 obtain⟨own,fD⟩:∃ own:List Nat,Hid ((∀ j∈own,w0.heap.size<=j/\j<w.heap.size)/\sb∈own/\ob∈own/\(∀ b,fv.ownBlock=some b->b∈own)/\rb∈own/\∀ l b,l<ys.length->(ys.getD l undef).ownBlock=some b->b∈own):=by
  refine⟨sb :: ob :: rb :: (fv.ownBlock.toList++(QE ys.length).flatMap fun l=>(ys.getD l undef).ownBlock.toList),lh ⟨fun j hj=>?_,by simp,by simp,fun b hb=>by have AD:=hb;simp only[Ql,Qh];exact Qw (Qw (Qw (Qf (by rw[AD];simp)))),by simp,fun l b hl hb=>?_⟩⟩
  ·simp only[Ql,Qh,Qp,Qt] at hj
   rcases hj with r | r | r | r | ⟨l,hl,r⟩
   ·rw[r];exact⟨hO.base.low,hO.base.kind.lt⟩
   ·rw[r];exact hO.base.on.lt
   ·rw[r];exact hO.rest.out.lt rb rfl
   ·exact hO.ak.out.lt j (by simpa using r)
   have:=hO.rest.kind hl (show _=some j by simpa using r);exact⟨this.1,this.2.1⟩
  simp only[Ql,Qh,Qp,Qt];exact Qw (Qw (Qw (Qw ⟨l,hl,by rw[hb];simp⟩)))
 obtain⟨wA,Sz⟩:∃ wA,ys.take (3*i)++ys.drop (3*i+3)=wA:=⟨_,rfl⟩;have DP:∀ l,l<wA.length->∃ l',l'<ys.length/\l'≠3*i/\wA.getD l undef=ys.getD l' undef:=fun l hl=>by
  rw[<-Sz,Qe,Qo,Qg] at hl;rw[<-Sz,pD (by omega)];by_cases q:l<3*i
  ·exact⟨l,by omega,by omega,by rw[if_pos q]⟩
  exact⟨l - 3*i+(3*i+3),by omega,by omega,by rw[if_neg q]⟩
 have aay:=lh (show ∀ l b,l<wA.length->(wA.getD l undef).ownBlock=some b->b∈own from fun l b hl hb=>by
  obtain⟨l',h1,-,h3⟩:=DP l hl;rw[h3] at hb;exact fD.out.2.2.2.2.2 l' b h1 hb)
 have UG:=lh (show mR ob xs wA from⟨ZL.out.o,fun k l b hk hl hb hc=>by
  obtain⟨l',h1,-,h3⟩:=DP l hl;rw[h3] at hc;exact ZL.out.y k l' b hk h1 hb hc⟩)
 have agy:=lh (show ∀ l b,l<wA.length->(wA.getD l undef).ownBlock=some b->(QB o0 c.aq.length p0).ownBlock≠some b from fun l b hl hb hc=>by
  obtain⟨l',h1,h2,h3⟩:=DP l hl;rw[h3] at hb;rcases s9.out.apart l' (3*i) h1 (by omega) h2 with r | r
  ·rw[r] at hb;cases hb
  rw[Zv.out] at r;exact r (hb.trans hc.symm))
 have abK:=s9.out.out.lt rb rfl;have adn:=HB.out.kind.lt;have hrs:rb≠sb:=(bE s9.out.out rfl).ne HB.out.kind (by decide);clear hO iL hf e1 e2 t0 t1 t2 hc r0 r1 r2;have iQ:=lh (show ag [] w ((w.alloc (.cells #[.pointer (some ⟨sb,0,none⟩)] 107)).alloc (.cells #[.slice o0 c.aq.length p0,.slice o1 c.ends.length p1,.slice o2 c.ak.length p2] 162)) from (show ag [] w ((w.alloc (.cells #[.pointer (some ⟨sb,0,none⟩)] 107)).alloc (.cells #[.slice o0 c.aq.length p0,.slice o1 c.ends.length p1,.slice o2 c.ak.length p2] 162)) from (((ag.refl [] w).alloc _).alloc _)));have dk:=heap_alloc_new w (.cells #[.pointer (some ⟨sb,0,none⟩)] 107);replace dk:=(show ag [] (w.alloc (.cells #[.pointer (some ⟨sb,0,none⟩)] 107)) ((w.alloc (.cells #[.pointer (some ⟨sb,0,none⟩)] 107)).alloc (.cells #[.slice o0 c.aq.length p0,.slice o1 c.ends.length p1,.slice o2 c.ak.length p2] 162)) from ((ag.refl [] (w.alloc (.cells #[.pointer (some ⟨sb,0,none⟩)] 107))).alloc _)).heap dk (by simp);have gX:=heap_alloc_new (w.alloc (.cells #[.pointer (some ⟨sb,0,none⟩)] 107)) (.cells #[.slice o0 c.aq.length p0,.slice o1 c.ends.length p1,.slice o2 c.ak.length p2] 162);rw[show (w.alloc (.cells #[.pointer (some ⟨sb,0,none⟩)] 107)).heap.size=w.heap.size+1 by simp] at gX;have HX:=lh (fun (w2:World) (eh:ag [] ((w.alloc (.cells #[.pointer (some ⟨sb,0,none⟩)] 107)).alloc (.cells #[.slice o0 c.aq.length p0,.slice o1 c.ends.length p1,.slice o2 c.ak.length p2] 162)) w2)=>(⟨eh.heap dk (by simp),eh.heap gX (by simp),by have hz:=eh.size;simpa using hz⟩:w2.heap[w.heap.size]?=some (.cells #[.pointer (some ⟨sb,0,none⟩)] 107 (0,0))/\w2.heap[w.heap.size+1]?=some (.cells #[.slice o0 c.aq.length p0,.slice o1 c.ends.length p1,.slice o2 c.ak.length p2] 162 (0,0))/\w.heap.size+2<=w2.heap.size));clear dk gX;have Gc:=lh (show ((w.alloc (.cells #[.pointer (some ⟨sb,0,none⟩)] 107)).alloc (.cells #[.slice o0 c.aq.length p0,.slice o1 c.ends.length p1,.slice o2 c.ak.length p2] 162)).heap.size=w.heap.size+2 by simp);have wE:=HX.out _ (ag.refl _ _);have kF:=lh (fun wr (h:ag own _ wr)=>(show wr.cell? ⟨w.heap.size,0,none⟩=some (.pointer (some ⟨sb,0,none⟩))/\wr.cell? ⟨w.heap.size+1,0,none⟩=some (.slice o0 c.aq.length p0)/\wr.cell? ⟨w.heap.size+1,1,none⟩=some (.slice o1 c.ends.length p1)/\wr.cell? ⟨w.heap.size+1,2,none⟩=some (.slice o2 c.ak.length p2) from by
  have n1:w.heap.size ∉ own:=fun q=>by have:=fD.out.1 _ q;omega
  have n2:w.heap.size+1 ∉ own:=fun q=>by have:=fD.out.1 _ q;omega
  have h1:=h.heap wE.1 n1;have h2:=h.heap wE.2.1 n2;exact⟨(cell_of_row _ _ 0 _ _ _ h1).trans rfl,(cell_of_row _ _ 0 _ _ _ h2).trans rfl,(cell_of_row _ _ 1 _ _ _ h2).trans rfl,(cell_of_row _ _ 2 _ _ _ h2).trans rfl⟩))
 obtain⟨x0,-⟩:=kF.out _ (ag.refl _ _);have q4':=(show ag [] w (w.alloc (.cells #[.pointer (some ⟨sb,0,none⟩)] 107)) from (ag.refl _ _).alloc _).dp q4;replace c0:=(show ag [] w (w.alloc (.cells #[.pointer (some ⟨sb,0,none⟩)] 107)) from (ag.refl _ _).alloc _).dp c0;replace c1:=(show ag [] w (w.alloc (.cells #[.pointer (some ⟨sb,0,none⟩)] 107)) from (ag.refl _ _).alloc _).dp c1;replace c2:=(show ag [] w (w.alloc (.cells #[.pointer (some ⟨sb,0,none⟩)] 107)) from (ag.refl _ _).alloc _).dp c2
 go_enter Tryz.func84,Tryz.ntmps84
 clear wE
 go_wp2_with fail
 clear q4' c0 c1 c2;replace q4:=iQ.out.dp q4;generalize ((w.alloc (.cells #[.pointer (some ⟨sb,0,none⟩)] 107)).alloc (.cells #[.slice o0 c.aq.length p0,.slice o1 c.ends.length p1,.slice o2 c.ak.length p2] 162))=w1 at *;obtain⟨pb,ph⟩:∃ pb,w.heap.size=pb:=⟨_,rfl⟩;have te:=lh ph;rw[ph] at kF x0 abK adn ⊢;have Rc:=iQ.out.size;rw[ph] at Rc;clear ph;have hpr:pb≠rb:=by omega
 have VW:pb≠sb:=by omega
 have oL:pb ∉ [rb]:=by simpa using hpr
 have mq:sb ∉ [rb]:=by simpa using fun e:sb=rb=>hrs e.symm
 have HPT:=lh (show ag own w1 w1 from ag.refl _ _);have aW:ag [rb] w1 w1.drew:=(ag.refl [rb] w1).drew;refine ar (ag [rb] w1) [0,1,2,3,4,5,6,7,9,10] (Way.line [0,1,2,3,4,5,6,7,8,9,10,11] .done) (by kernel_rfl) (by kernel_rfl) ?_;simp only[Way.line]
 repeat (refine ai (v:=?_) rfl (by rfl) (by rfl) (fun _ _ _ h=>h) aW (fun w' aI=>?_) ?_;rotate_left;(focus (have gB:=aI.cell x0 (by first | exact oL | exact mq);have gQ:=aI.cell q4 (by first | exact oL | exact mq);clear aI;go_simp;try with_reducible rfl));simp only[Qb,Z1,Z2,Z3,Z4,Z5,Z6])
 refine au rfl (by rfl) (by rfl) (fun K hK=>?_);go_simp;refine (Ms rb rc i w0.heap.size s.rest ys _ ((s9.out.fresh iQ.out).fresh ((ag.refl [] w1).drew)) hi (by omega)).mono ?_;rw[Sz];rintro e w2 ⟨rfl,iI,bA⟩;have bF:ag [rb] w1 w2:=aW.trans bA (fun j hj=>Qf hj);refine hK.out _ _ (fun _=>bF) ?_;clear hK K aW
 try simp only[Qb,Z1,Z2,Z3,Z4,Z5,Z6]
 repeat (refine ai (v:=?_) rfl (by rfl) (by rfl) (fun _ _ _ h=>h) bF (fun w' aI=>?_) ?_;rotate_left;(focus (have gB:=aI.cell x0 (by first | exact oL | exact mq);have gQ:=aI.cell q4 (by first | exact oL | exact mq);clear aI;go_simp;try with_reducible rfl));simp only[Qb,Z1,Z2,Z3,Z4,Z5,Z6])
 have s4:=bF.cell q4 mq;have ff:=(HB.out.fresh iQ.out).more bF (by simpa using abK.1) mq (by simpa using (bE s9.out.out rfl).ne HB.out.on.cA (by decide) |>.symm);have f4:=ff.free 4;refine au rfl (by rfl) (by rfl) (fun K hK=>?_);go_simp;refine hK.out _ _ (fun h=>absurd h (Qi.1 (by kernel_rfl))) ?_;clear hK K
 try simp only[Qb,Z1,Z2,Z3,Z4,Z5,Z6]
 refine aC ?_;obtain⟨n1,xC⟩:∃ n1,(s.rest.eraseIdx i).length=n1:=⟨_,rfl⟩;have Xy:=lh xC;rw[xC] at iI ⊢;have aZ:ag [sb] w2 (w2.setCell ⟨sb,4,none⟩ (.slice (some ⟨rb,0,none⟩) n1 rc)):=(ag.refl _ _).setCell (Qf (by simp)) _;have pI:∀ j∈[sb],bp w2 j 113:=fun j hj=>by rw[Qa.1 hj];exact ff.kind
 have XA:∀ j∈[rb],bp w1 j 162:=fun j hj=>by rw[Qa.1 hj];exact (bE s9.out.out rfl).aD iQ.out (by simp)
 have Ld:=lh (ff.ac7 (.slice (some ⟨rb,0,none⟩) n1 rc));have HF3:=lh (((yc.out.fresh iQ.out).other bF (fun j hj=>⟨_,XA j hj,by decide,by decide,by decide⟩)).other aZ (fun j hj=>⟨_,pI j hj,by decide,by decide,by decide⟩));have HN3:=lh (iI.others aZ (fun j hj=>⟨_,pI j hj,by decide,by decide⟩));have aJ:∀ {v:Value} {l:List Int},aj w w0.heap.size v l->aj (w2.setCell ⟨sb,4,none⟩ (.slice (some ⟨rb,0,none⟩) n1 rc)) w0.heap.size v l:=fun {v} {l} hr=>by
  have h1:=hr.aD iQ.out (by simp);have h2:=h1.aD bF (fun b hb hm=>(h1.cA (by simpa using hb)).ne (XA b hm) (by decide) rfl);exact h2.aD aZ (fun b hb hm=>(h2.cA (by simpa using hb)).ne (pI b hm) (by decide) rfl)
 have HE3:=lh (aJ Xq.out);have HD3:=lh (aJ UK.out);have cU:=lh (aJ yH.out);have YC:=lh (show ag own w1 (w2.setCell ⟨sb,4,none⟩ (.slice (some ⟨rb,0,none⟩) n1 rc)) from (bF.mono (fun j hj=>Qf (by rw[Qa.1 hj];exact fD.out.2.2.2.2.1))).trans aZ (fun j hj=>Qf (by rw[Qa.1 hj];exact fD.out.2.1)));clear aZ pI XA aJ iI bA bF ff s4 f4 xC HPT x0 q4 wi DP Sz;generalize w2.setCell ⟨sb,4,none⟩ (.slice (some ⟨rb,0,none⟩) n1 rc)=w3 at *;obtain⟨x0,x1,x2,x3⟩:=kF.out _ YC.out;have hP:=HP.out;have XJ:=hP.a0;have haN:=hP.aN;have asx:=hP.el;have akC:=hP.Hk;have arU:=hP.fl;clear hpr VW oL mq
 go_wp2_with fail
 refine (Tf sb N w0.heap.size ob a c.ak.length vE _ _ o2 p2 g s.on b.v c.aq c.ends w3 Ld.out.wL Ld.out.q2 Ld.out.on hP.aq akC HE3.out.ints HD3.out.ints (by omega) XJ haN hP.part hP.aV).mono ?_;rw[hP.qL];rintro e w4 ⟨v4,rfl,ON,gR⟩;obtain⟨o4,p4,rfl⟩:=ON.shape;have AG:=lh ON;have HT4:=lh (YC.out.tr gR);have VO:=lh (Ld.out.fresh gR);have Mn:=lh (HF3.out.fresh gR);have HN4:=lh (HN3.out.fresh gR);have OW:=lh (HE3.out.aD gR (by simp));have HD4:=lh (HD3.out.aD gR (by simp));have iO:=lh (cU.out.aD gR (by simp));have aq1:=lh gR.size;have hwl:=hP.wl;have aj3:=lh YC.out.size;clear ON gR Ld HF3 HN3 HE3 HD3 cU YC x0 x1 x2 x3 hP;have U':=lh HP.out.wd
 go_wp2_with fail
 go_loopw [7,41] (fun _ k wr=>∃ j:Nat,j<=wy.length/\k=.int .i64 j/\bZ w0 wr sb ob N g vE fv (.slice (some ⟨rb,0,none⟩) n1 rc) (Plain.jO g s.on (wy.take j))/\ag [ob] w4 wr) (fun _ k _=>wy.length - (intOf k).toNat)
 case atStart=>exact⟨0,QD _,rfl,VO.out.same (fun _ _=>Plain.KF _ _ _ _),ag.refl _ _⟩
 case round =>
  obtain⟨j,hj,rfl,hbj,AF⟩:=hrel;have OI:=lh hbj;have Pw:=lh AF;have XU:=lh (HT4.out.trans AF (fun k hk=>Qf (by rw[Qa.1 hk];exact fD.out.2.2.1)));have Il:∀ k∈[ob],bp w4 k 4:=fun k hk=>by rw[Qa.1 hk];exact VO.out.on.cA
  have Zq:=lh (AG.out.aD AF (fun b hb hm=>(AG.out.cA (by simpa using hb)).ne (Il b hm) (by decide) rfl));obtain⟨x0,x1,x2,x3⟩:=kF.out _ XU.out;clear hbj AF;by_cases aL:j<wy.length
  ·obtain⟨rb2,TE,sC⟩:=Zq.out.some (by omega)
   subst TE;have cz:=sC j aL;have mj:=U'.out _ (Plain.aQ aL);have HT:=lh (Plain.IP (g:=g) (on:=s.on) aL);obtain⟨n,v,hn,iI,hv,tq,hn4⟩:=OI.out.wL.Bc mj.1 mj.2;rw[hn] at cz HT hv;rw[hv] at HT;have HV:=lh hv;have OR:(v:Int)<(N:Int):=by omega
   have s0:=OI.out.wL.c0;have s1:=OI.out.wL.c1;have s2:=OI.out.q2;obtain⟨eo,aa8,AL,-⟩:=OI.out.wL.gr;simp only[QF.injEq,Array.mk.injEq,List.cons.injEq,true_and,and_true] at AL;have Xe:=lh OI.out.wL.gr;rw[AL] at s1 Xe;have lA:(j:Int)<(wy.length:Int):=by omega
   clear sC hn hv mj Il x1 x2 x3
   go_wp2_with fail
   have aW:ag [] wr wr.drew:=(ag.refl [] wr).drew;refine ar (ag [] wr) [0,1,2,3,4,5,6,7,8,10] (Way.line [0,1,2,3,4,5,6,7,8,9,10,11] .done) (by kernel_rfl) (by kernel_rfl) ?_;simp only[Way.line]
   repeat (refine ai (v:=?_) rfl (by rfl) (by rfl) (fun _ _ _ h=>h) aW (fun w' aI=>?_) ?_;rotate_left;(focus (have gB:=aI.c x0;have gQ:=aI.c s0;have np:=aI.c s1;have Hg:=aI.c s2;clear aI;go_simp;try with_reducible rfl));simp only[Qb,Z1,Z2,Z3,Z4,Z5,Z6])
   refine au rfl (by rfl) (by rfl) (fun K hK=>?_);go_simp;refine (cO _ g n _ iI (by have:=fZ.out;omega) (Xe.out.fresh aW)).mono ?_;rw[HV.out];rintro e w9 ⟨rfl,hc9⟩;have bF:ag [] wr w9:=aW.tr hc9;refine hK.out _ _ (fun _=>bF) ?_;clear hK K hc9 aW
   try simp only[Qb,Z1,Z2,Z3,Z4,Z5,Z6]
   repeat (refine ai (v:=?_) rfl (by rfl) (by rfl) (fun _ _ _ h=>h) bF (fun w' aI=>?_) ?_;rotate_left;(focus (have gB:=aI.c x0;have gQ:=aI.c s0;have np:=aI.c s1;have Hg:=aI.c s2;clear aI;go_simp;try with_reducible rfl));simp only[Qb,Z1,Z2,Z3,Z4,Z5,Z6])
   have Sr:=OI.out.fresh bF;have bc:=Sr.on.cell tq;have bf:=Sr.on.free v;refine au rfl (by rfl) (by rfl) (fun K hK=>?_);go_simp;refine hK.out _ _ (fun h=>absurd h (Qi.1 (by kernel_rfl))) ?_;clear hK K
   try simp only[Qb,Z1,Z2,Z3,Z4,Z5,Z6]
   refine aC ?_;have ahs:=lh ((Sr.adY v).same (on':=Plain.jO g s.on (wy.take (j+1))) (fun i _=>(HT.out i).symm));have Pj:=lh ((Pw.out.tr bF).trans ((ag.refl [ob] w9).setCell (p:=⟨ob,v,none⟩) (Qf (by simp)) (.bool true)) (fun j hj=>Qf hj));clear Sr bc bf bF x0 s0 s1 s2 cz;generalize w9.setCell ⟨ob,v,none⟩ (.bool true)=OL at *;go_wp2
   go_roundw
   case rel=>exact⟨j+1,by omega,by go_num,ahs.out,Pj.out⟩
   case measure=>simp[intOf];omega
  have e:j=wy.length:=by omega
  subst e;rw[List.take_length] at OI;have AF:=Pw.out;have U6:=lh (Mn.out.aD AF (fun b hb hm=>(bE Mn.out.out hb).ne (Il b hm) (by decide) rfl) (fun k b hk hb hm=>UG.out.o k hk (by rw[hb,Qa.1 hm])));have HN5:=lh (HN4.out.others AF (fun j hj=>⟨_,Il j hj,by decide,by decide⟩));have aJ:∀ {v:Value} {l:List Int},aj w4 w0.heap.size v l->aj wr w0.heap.size v l:=fun {v} {l} hr=>hr.aD AF (fun b hb hm=>(hr.cA (by simpa using hb)).ne (Il b hm) (by decide) rfl);have HE5:=lh (aJ OW.out);have HD5:=lh (aJ HD4.out);have ga:=lh (aJ iO.out);have Zi:=lh AF.size;have wZ:=lh OI.out;clear AF Il aJ Mn HN4 OW HD4 iO VO HT4 AG OI Pw hj aL;obtain⟨eb,ee,Mr⟩:=HD5.out.some (by omega);subst ee;have d0:=Mr 0 (by omega);rw[XJ] at d0;have hwp:0<wy.length:=List.length_pos_iff.2 HP.out.wne;obtain⟨wb,ew,Jh⟩:=Zq.out.some hwp;subst ew;have ahL:=lh (show pb<=wb from Qc (Qc Rc aj3.out) (Zq.out.low wb (by simp[Qd])).1);have dl:=Jh (wy.length - 1) (by omega);obtain⟨l1,l2⟩:=Plain.I5 HP.out.wne;have hld:=U'.out _ l2;have hlz:=HP.out.z0;rw[l1] at dl;obtain⟨m,hm⟩:∃ m:Nat,wy.getLastD 0=m:=⟨(wy.getLastD 0).toNat,by omega⟩;rw[hm] at dl hld hlz;have jo:m / 2<g.e.length:=by omega
  have Hs:=kP m (by have:=fZ.out;omega);have wu:g.tail (Plain.aT (m:Int))=(z:Int):=by rw[Plain.aS];exact hlz
  have Rn:=Plain.dP (m:Int);obtain⟨tm,KX⟩:∃ tm:Nat,Plain.aT (m:Int)=tm:=⟨(Plain.aT (m:Int)).toNat,by unfold Plain.aT;split <;> omega⟩;rw[KX] at Hs wu Rn;have acR:tm / 2<g.e.length:=by omega
  have HLZ:=lh wu;clear KX wu Rn;have s0:=wZ.out.wL.c0;have s1:=wZ.out.wL.c1;obtain⟨eo,aa8,AL,-⟩:=wZ.out.wL.gr;simp only[QF.injEq,Array.mk.injEq,List.cons.injEq,true_and,and_true] at AL;subst AL;have Xe:=lh wZ.out.wL.gr;have qK:(wy.length:Int)<=1024:=by omega
  have aiy:0<(wy.length:Int):=by omega
  have agu:0<c.ends.length:=by omega
  have RO:1<=(wy.length:Int):=by omega
  have xI:(wy.length:Int) - 1<(wy.length:Int):=by omega
  have wq:IntKind.i64.wrap ((wy.length:Int) - 1)=(wy.length:Int) - 1:=IntWalk.i64_in _ (by omega);clear Mr Jh l1 l2 hld hlz hm
  go_wp2_with fail
  have aW:ag [] wr wr.drew:=(ag.refl [] wr).drew;refine ar (ag [] wr) [0,1,2,3,4,5,6,7,8,9,10,11,12,13,14,16,17] (Way.line [0,1,2,3,4,5,6,7,8,9,10,11,12,13,14,15,16,17] .done) (by kernel_rfl) (by kernel_rfl) ?_;simp only[Way.line]
  repeat (refine ai (v:=?_) rfl (by rfl) (by rfl) (fun _ _ _ h=>h) aW (fun w' aI=>?_) ?_;rotate_left;(focus (have gB:=aI.c x0;have gQ:=aI.c x2;have np:=aI.c s0;have Hg:=aI.c s1;have rd4:=aI.c d0;have rd5:=aI.c dl;clear aI;go_simp;try with_reducible rfl));simp only[Qb,Z1,Z2,Z3,Z4,Z5,Z6])
  refine au rfl (by rfl) (by rfl) (fun K hK=>?_);go_simp;refine (cO _ g tm _ acR (by have:=fZ.out;omega) (Xe.out.fresh aW)).mono ?_;rw[HLZ.out];rintro e w6 ⟨rfl,hc6⟩;have bF:ag [] wr w6:=aW.tr hc6;refine hK.out _ _ (fun _=>bF) ?_;clear hK K hc6 aW
  try simp only[Qb,Z1,Z2,Z3,Z4,Z5,Z6]
  repeat (refine ai (v:=?_) rfl (by rfl) (by rfl) (fun _ _ _ h=>h) bF (fun w' aI=>?_) ?_;rotate_left;(focus (skip;clear aI;go_simp;try with_reducible rfl));simp only[Qb,Z1,Z2,Z3,Z4,Z5,Z6])
  refine aC ?_;have HB6:=lh (wZ.out.fresh bF);have OO:=lh (U6.out.fresh bF);have HN6:=lh (HN5.out.fresh bF);have HE6:=lh (HE5.out.aD bF (by simp));have ky:=lh (ga.out.aD bF (by simp));have Se:=lh (Zq.out.aD bF (by simp));have Yo:=lh (XU.out.tr bF);have Wv:=lh (Qc Zi.out bF.size);clear bF wZ U6 HN5 HE5 HD5 ga Zq XU Zi s0 s1 d0 dl x0 x1 x2 x3 Xe Hs acR HLZ aiy agu RO xI wq jo;obtain⟨x0,x1,x2,x3⟩:=kF.out _ Yo.out;obtain⟨cb,ce,ka⟩:=ky.out.some (by omega);subst ce;have d0:=ka 0 (by omega);rw[HP.out.f0] at d0;obtain⟨fb,fc,Es⟩:=cD OO.out.out (by have:=HP.out.fF;omega);subst Es;have hfF:=HP.out.fF;have qR:=OO.out.row f hfF;rw[HP.out.Ti] at qR;have NT:=OO.out.cell (k:=2*f) (by rw[OO.out.len];omega);obtain⟨u0,YM⟩:∃ u,xs.getD (2*f) undef=u:=⟨_,rfl⟩;rw[YM] at qR NT;obtain⟨o5,p5,rfl⟩:=qR.shape;have MV:=lh qR;have q3:=HB6.out.q3;have arN:0<c.ak.length:=by omega
  have hfi:(f:Int)<(s.ak.length:Int):=by omega
  rw[Qs 2 f] at NT;clear ka qR
  go_wp2_with fail
  have hol:0<old.length:=by
   obtain⟨x,hx,-⟩:=HP.out.oa;exact List.length_pos_of_mem hx
  obtain⟨db,e5,-⟩:=MV.out.some hol;subst e5;obtain⟨-,an5⟩:=ns MV.out;have apG:=HP.out.ol;have adu:old.length<1000000000:=by omega
  obtain⟨DT,PJ⟩:=Plain.BE (P:=fun d=>decide (g.tail d=(a:Int))) (l:=old) (by obtain⟨x,hx,e⟩:=HP.out.oa;exact⟨x,hx,decide_eq_true e⟩);obtain⟨k1,Nc⟩:∃ k1,old.findIdx (fun d=>decide (g.tail d=(a:Int)))=k1:=⟨_,rfl⟩;have HK1:=lh Nc;rw[Nc] at DT PJ;have Kx:=lh DT;have Md:=(ag.refl [] w6).alloc (.cells #[.int .i64 (a:Nat)] 3);have eh:=heap_alloc_new w6 (.cells #[.int .i64 (a:Nat)] 3);have YD:=(cell_of_row _ _ 0 _ _ _ eh).trans (show _=some (QG .i64 (a:Nat)) from rfl);have Z9:a<1000000:=by have:=fZ.out;omega
  have aaV:z<1000000:=by have:=fZ.out;have:=HP.out.zN;omega
  clear DT Nc eh x1 x2 x3 d0 NT q3;refine (Cw pb a Z9 w6).mono ?_;rintro e w7 ⟨rfl,rfl⟩
  go_wp2_with fail
  refine (yo a pb w6.heap.size sb N _ g _ old _ (HB6.out.fresh Md).wL Z9 (Md.dp x0) YD HP.out.od adu (MV.out.ints.fresh Md)).mono ?_;rw[Kx.out];rintro e w8 ⟨rfl,hc8⟩;have hs8:ag [] w6 w8:=Md.tr hc8;have O':=lh hs8;have LM:=lh (MV.out.aD hs8 (by simp));have Vh:k1<=old.length:=by omega
  have ah9:k1<=p5:=by omega
  have ahM:¬ p5=k1:=by omega
  have ahi:(k1:Int)<=(old.length:Int):=by omega
  have ajn:(k1:Int)<=(p5:Int):=by omega
  clear Md YD hc8 hs8 x0
  go_wp2_with fail
  have aW:ag [] w8 w8.drew:=(ag.refl [] w8).drew;refine ar (ag [] w8) [0,1,2,3,4,5,8] (Way.line [0,1,2,3,4,5,6,7,8] .done) (by kernel_rfl) (by kernel_rfl) ?_;simp only[Way.line]
  repeat (refine ai (v:=?_) rfl (by rfl) (by rfl) (fun _ _ _ h=>h) aW (fun w' aI=>?_) ?_;rotate_left;(focus (skip;clear aI;go_simp;try with_reducible rfl));simp only[Qb,Z1,Z2,Z3,Z4,Z5,Z6])
  refine au rfl (by rfl) (by rfl) (fun K hK=>?_);go_simp;refine hK.out _ _ (fun _=>aW.alloc (.cells #[.slice (some ⟨db,k1,none⟩) (old.length - k1) (p5 - k1),.slice (some ⟨db,0,none⟩) k1 p5] 25)) ?_;clear hK K
  try simp only[Qb,Z1,Z2,Z3,Z4,Z5,Z6]
  refine au rfl (by rfl) (by rfl) (fun K hK=>?_);go_simp;refine (jP (.slice (some ⟨db,k1,none⟩) (old.length - k1) (p5 - k1)) (.slice (some ⟨db,0,none⟩) k1 p5) (old.drop k1) (old.take k1) w8.drew ((xJ LM.out Vh).fresh aW) ((yT LM.out Vh).fresh aW) (by rw[Qg,Qo];omega)).mono ?_;rintro e w9 ⟨v9,rfl,hr9,hc9⟩;have bF:ag [] w8 w9:=aW.tr hc9;refine hK.out _ _ (fun _=>bF) ?_;clear hK K
  try simp only[Qb,Z1,Z2,Z3,Z4,Z5,Z6]
  repeat (refine ai (v:=?_) rfl (by rfl) (by rfl) (fun _ _ _ h=>h) bF (fun w' aI=>?_) ?_;rotate_left;(focus (skip;clear aI;go_simp;try with_reducible rfl));simp only[Qb,Z1,Z2,Z3,Z4,Z5,Z6])
  refine aC ?_;obtain⟨o,ho⟩:∃ o,old.drop k1++old.take k1=o:=⟨_,rfl⟩;have HO:=lh ho;rw[ho] at hr9;have hoo:∀ d∈o,d∈old:=fun d hd=>by
   rw[<-ho] at hd;rcases Qh.1 hd with r | r
   ·exact Qq r
   exact Qr r
  have ac1:∀ d∈old,d∈o:=fun d hd=>by
   rw[<-ho];rw[<-List.take_append_drop k1 old] at hd;exact (Qh.1 hd).elim (fun r=>List.mem_append_right _ r) (fun r=>List.mem_append_left _ r)
  have Tj:o.length=old.length:=by rw[<-ho,Qe,Qg,Qo];omega
  have HOD:=lh (show ∀ d∈o,0<=d/\d / 2<g.e.length from fun d hd=>HP.out.od d (hoo d hd));have Ro:∃ x∈o,decide (g.tail x=(z:Int))=true:=by
   obtain⟨x,hx,e⟩:=HP.out.oz;exact⟨x,ac1 x hx,decide_eq_true e⟩
  obtain⟨DT,PJ⟩:=Plain.BE Ro;obtain⟨j1,hj1⟩:∃ j1,o.findIdx (fun d=>decide (g.tail d=(z:Int)))=j1:=⟨_,rfl⟩;have HJ1:=lh hj1;rw[hj1] at DT PJ;have HFJ:=lh DT;have CJ:=O'.out.tr bF;have HT9:=lh (Yo.out.tr CJ);have HB9:=lh (HB6.out.fresh CJ);have HF9:=lh (OO.out.fresh CJ);have HN9:=lh (HN6.out.fresh CJ);have HE9:=lh (HE6.out.aD CJ (by simp));have HW9:=lh (Se.out.aD CJ (by simp));have aaU:=lh (Qc Wv.out CJ.size);obtain⟨o9,p9,rfl⟩:=hr9.shape;obtain⟨gb,e9,-⟩:=hr9.some (by omega);subst e9;obtain⟨-,ald⟩:=ns hr9;have Wt:j1<=o.length:=by omega
  have ajr:j1<=p9:=by omega
  have afV:¬ p9=j1:=by omega
  have aii:(j1:Int)<=(o.length:Int):=by omega
  have agt:(j1:Int)<=(p9:Int):=by omega
  have N9:(o.take j1).length+(Plain.twins wy).length<1000000:=by rw[Qo,Plain.nz];omega
  have RN:wy.length+(o.drop j1).length<1000000:=by rw[Qg];omega
  have Vd:=lh (hr9.base (B:=w4.heap.size) (Qc Wv.out O'.out.size));have aub:o.length<=2048:=by omega
  have aao:o.length<1000000000:=by omega
  clear Tj ho hoo ac1 Ro DT hj1 hr9 hc9 aW bF CJ HB6 OO HN6 HE6 Se Wv Yo O' MV LM Kx Vh ah9 ahM ahi ajn PJ;obtain⟨x0,x1,x2,x3⟩:=kF.out _ HT9.out
  go_wp2_with fail
  have Md:=(ag.refl [] w9).alloc (.cells #[.int .i64 (z:Nat)] 3);have eh:=heap_alloc_new w9 (.cells #[.int .i64 (z:Nat)] 3);have YD:=(cell_of_row _ _ 0 _ _ _ eh).trans (show _=some (QG .i64 (z:Nat)) from rfl);clear eh;refine (Cw pb z aaV w9).mono ?_;rintro e OL ⟨rfl,rfl⟩
  go_wp2_with fail
  refine (yo z pb w9.heap.size sb N _ g _ o _ (HB9.out.fresh Md).wL aaV (Md.dp x0) YD HOD.out aao (Vd.out.ints.fresh Md)).mono ?_;rw[HFJ.out];rintro e G1 ⟨rfl,hc11⟩;have hS:=Md.tr hc11;have R':=lh (HT9.out.tr hS);have U0:=lh (HB9.out.fresh hS);have SL:=lh (HF9.out.fresh hS);have acK:=lh (HN9.out.fresh hS);have adH:=lh (HE9.out.aD hS (by simp));have Zc:=lh (HW9.out.aD hS (by simp));have aba:=lh (Vd.out.aD hS (by simp));have Un:=lh (Qc aaU.out hS.size);clear Md YD hc11 hS x0 x1 x2 x3 HT9 HB9 HF9 HN9 HE9 HW9 Vd aaU HFJ;obtain⟨x0,x1,x2,x3⟩:=kF.out _ R'.out;have q3:=U0.out.q3;obtain⟨F0,X6⟩:∃ F0,s.ak.length=F0:=⟨_,rfl⟩;have OV:=lh X6;have T8:=HP.out.Fl;have hkb:=bE SL.out.out rfl;obtain⟨cs,rr,ja⟩:=hkb;have ai3:rr=(0,0)/\2*F0<=cs.size:=by
   rcases SL.out.out.2 with ⟨q,-⟩ | ⟨g',c',cur,q,-,hh,h3,-,h5,-⟩
   ·cases q
   cases q;rw[ja] at hh;simp only[QC.injEq,Obj.cells.injEq,true_and] at hh;obtain⟨rfl,rfl⟩:=hh;exact⟨rfl,by omega⟩
  obtain⟨rfl,ahY⟩:=ai3;have HCS:=lh ja;rw[X6] at hfF T8 q3 hfi;have GA:=lh (heap_alloc_new G1 (.cells #[.int .i64 (f:Nat),.int .i64 (F0:Nat)] 3));have Gf:=(ag.refl [] G1).alloc (.cells #[.int .i64 (f:Nat),.int .i64 (F0:Nat)] 3);have Cg:=nw G1 (x:=(f:Nat)) (y:=(F0:Nat)) (aU.mk (by omega) (by omega)) (aU.mk (by omega) (by omega));have Xs:=lh (show ∀ b,pb<=b->b≠ob/\∀ l,l<wA.length->(wA.getD l undef).ownBlock≠some b from fun b hb=>by
   refine⟨fun e=>?_,fun l hl e=>?_⟩
   ·have:=fD.out.1 ob fD.out.2.2.1
    have:=te.out;omega
   have:=fD.out.1 b (aay.out l b hl e);have:=te.out;omega)
  have VZ:=U0.out.fresh Gf;have MB:=lh (SL.out.fresh Gf);have RI:=lh (acK.out.fresh Gf);have acy:=lh (adH.out.aD Gf (by simp));have WY:=lh (Zc.out.aD Gf (by simp));have WB:=lh (aba.out.aD Gf (by simp));have PS:=lh (R'.out.tr Gf);have Us:=lh (Qc Un.out Gf.size);have T4:=lh (Gf.hp ja);have MJ:=lh VZ;have aca:=VZ.q3;have We:=lh Cg;have aaq:=(show G1.heap.size<(G1.alloc (.cells #[.int .i64 (f:Nat),.int .i64 (F0:Nat)] 3)).heap.size by simp);have Y7:=lh R'.out.size;clear x1 x2 x3 ja U0 SL acK adH Zc aba R' Un VZ Cg HCS
  go_wp2_with fail
  clear x0 q3;obtain⟨x0,-,-,-⟩:=kF.out _ PS.out;have q3:=aca;rw[X6] at q3;obtain⟨bb,O5⟩:∃ bb,G1.heap.size=bb:=⟨_,rfl⟩;rw[O5] at We GA aaq ⊢;have akp:=lh (show pb<=bb by rw[<-O5];exact Qc Rc Y7.out);generalize G1.alloc (.cells #[.int .i64 (f:Nat),.int .i64 (F0:Nat)] 3)=Jq at *;clear Gf O5 aca;have XR:=lh (show ∀ d∈wy,0<=d/\d<4294967296 from fun d hd=>by
   have h1:=U'.out d hd;have h2:=fZ.out;omega)
  have W9:=lh (show ∀ d∈o.take j1++Plain.twins wy,0<=d/\d / 2<g.e.length from fun d hd=>by
   rcases Qh.1 hd with r | r
   ·exact HOD.out d (Qr r)
   have h1:=U'.out _ (Plain.jn.1 r);have h2:=Plain.dP d;omega)
  have UY:=lh (show ∀ d∈wy++o.drop j1,0<=d/\d / 2<g.e.length from fun d hd=>by
   rcases Qh.1 hd with r | r
   ·exact U'.out d r
   exact HOD.out d (Qq r))
  have WK:(o.take j1++Plain.twins wy).length<=1000000:=by rw[Qe];omega
  have V7:(wy++o.drop j1).length<=1000000:=by rw[Qe];omega
  have adw:wy.length<=1000000:=by omega
  obtain⟨L1,XW⟩:∃ L1,o.take j1++Plain.twins wy=L1:=⟨_,rfl⟩;have Pa:=lh XW;obtain⟨L2,hL2⟩:∃ L2,wy++o.drop j1=L2:=⟨_,rfl⟩;have HL2:=lh hL2;obtain⟨tw,FI⟩:∃ tw,Plain.twins wy=tw:=⟨_,rfl⟩;have HTW:=lh FI;rw[XW] at W9 WK;rw[hL2] at UY V7;rw[FI] at N9;clear XW hL2 FI;have wj:f*2+1<cs.size:=by omega
  have aW:ag [] Jq Jq.drew:=(ag.refl [] Jq).drew;refine ar (ag [] Jq) [0,1,2,3,4,5,6,7,8,9,14] (Way.line [0,1,2,3,4,5,6,7,8,9,10,11,12,13,14,15] .done) (by kernel_rfl) (by kernel_rfl) ?_;simp only[Way.line]
  repeat (refine ai (v:=?_) rfl (by rfl) (by rfl) (fun _ _ _ h=>h) aW (fun w' aI=>?_) ?_;rotate_left;(focus (have gB:=aI.c x0;have gQ:=aI.c q3;clear aI;go_simp;try with_reducible rfl));simp only[Qb,Z1,Z2,Z3,Z4,Z5,Z6])
  refine au rfl (by rfl) (by rfl) (fun K hK=>?_);go_simp;refine (xH _ wy _ adw XR.out (WY.out.ints.fresh aW)).mono ?_;rw[HTW.out];rintro e VP ⟨v13,rfl,hr13,hc13⟩;obtain⟨o13,p13,rfl⟩:=hr13.shape;have bF:ag [] Jq VP:=aW.tr hc13;refine hK.out _ _ (fun _=>bF) ?_;clear hK K aW hc13
  try simp only[Qb,Z1,Z2,Z3,Z4,Z5,Z6]
  repeat (refine ai (v:=?_) rfl (by rfl) (by rfl) (fun _ _ _ h=>h) bF (fun w' aI=>?_) ?_;rotate_left;(focus (have gB:=aI.c x0;have gQ:=aI.c q3;clear aI;go_simp;try with_reducible rfl));simp only[Qb,Z1,Z2,Z3,Z4,Z5,Z6])
  refine au rfl (by rfl) (by rfl) (fun K hK=>?_);go_simp;refine hK.out _ _ (fun _=>bF.alloc (.cells #[.slice (some ⟨gb,0,none⟩) j1 p9,.slice o13 tw.length p13] 25)) ?_;clear hK K
  try simp only[Qb,Z1,Z2,Z3,Z4,Z5,Z6]
  refine au rfl (by rfl) (by rfl) (fun K hK=>?_);go_simp;refine (jP (.slice (some ⟨gb,0,none⟩) j1 p9) (.slice o13 tw.length p13) (o.take j1) tw VP ((yT WB.out Wt).fresh bF) hr13.ints N9).mono ?_;have agW:=lh (show o.take j1++tw=L1 by rw[<-HTW.out];exact Pa.out);rw[agW.out];rintro e Mf ⟨v14,rfl,hr14,hc14⟩;obtain⟨Yj,Yx,rfl⟩:=hr14.shape;have jl:ag [] Jq Mf:=bF.tr hc14;refine hK.out _ _ (fun _=>jl) ?_;clear hK K hc14
  try simp only[Qb,Z1,Z2,Z3,Z4,Z5,Z6]
  refine au rfl (by rfl) (by rfl) (fun K hK=>?_);go_simp;refine (lF sb N _ _ g L1 Mf (MJ.out.fresh jl).wL WK W9.out hr14.ints).mono ?_;rintro e PA ⟨fz,rfl,hbb1,hc15⟩;have ke:ag [] Jq PA:=jl.tr hc15;refine hK.out _ _ (fun _=>ke) ?_;clear hK K
  try simp only[Qb,Z1,Z2,Z3,Z4,Z5,Z6]
  repeat (refine ai (v:=?_) rfl (by rfl) (by rfl) (fun _ _ _ h=>h) ke (fun w' aI=>?_) ?_;rotate_left;(focus (have gB:=aI.c x0;have gQ:=aI.c q3;clear aI;go_simp;try with_reducible rfl));simp only[Qb,Z1,Z2,Z3,Z4,Z5,Z6])
  refine au rfl (by rfl) (by rfl) (fun K hK=>?_);simp only[Qm,Qj,Qk];refine JA (.tmp 125) (.tmp 124) rfl rfl rfl (ke.hp T4.out) wj ?_;refine hK.out _ _ (fun h=>absurd h (Qi.1 (by kernel_rfl))) ?_;clear hK K
  try simp only[Qb]
  refine aC ?_;have akz:pb<=Jq.heap.size:=Qc Rc PS.out.size;have ZU:=(hr14.aD hc15 (by simp)).base (B:=w0.heap.size) (Qc (MJ.out.aD.size) bF.size);have Ux:=hbb1.base (B:=w0.heap.size) (Qc (MJ.out.aD.size) jl.size);have VH:=(MB.out.fresh ke).put (v:=.slice Yj L1.length Yx) (hb:=fz) HP.out.fF ZU Ux;have oJ:∀ j∈[fb],bp PA j 158:=fun j hj=>by rw[Qa.1 hj];exact bE (MB.out.fresh ke).out rfl
  have DJ:mR ob ((xs.set (2*f) (.slice Yj L1.length Yx)).set (2*f+1) (.slice (some ⟨fz,0,none⟩) N N)) wA:=by
   have sW:=MB.out.len;have arx:=HP.out.fF;refine (UG.out.put (by omega) fun b hb=>Xs.out b ?_).put (by rw[Qz];omega) fun b hb=>Xs.out b ?_
   ·have h1:=(hr14.low b (by rw[hb];simp)).1
    have h2:=bF.size;omega
   have:fz=b:=by simpa[Qd] using hb
   have h1:=hbb1.lt.1;have h2:=jl.size;omega
  rw[Qs 2 f] at VH DJ;have aZ:ag [fb] PA ((PA.setCell ⟨fb,f*2,none⟩ (.slice Yj L1.length Yx)).setCell ⟨fb,f*2+1,none⟩ (.slice (some ⟨fz,0,none⟩) N N)):=((ag.refl _ _).setCell (Qf (by simp)) _).setCell (Qf (by simp)) _;have PR:=MJ.out.fresh ke;have acg:sb ∉ [fb]:=fun q=>PR.kind.ne (oJ sb q) (by decide) rfl;have adl:ob ∉ [fb]:=fun q=>PR.on.cA.ne (oJ ob q) (by decide) rfl;have Po:=(MB.out.out.lt fb rfl);have AX:=lh (PR.more aZ (by simpa using Po.1) acg adl);have aaQ:=lh ((RI.out.fresh ke).others aZ (fun j hj=>⟨_,oJ j hj,by decide,by decide⟩));have aJ:∀ {B:Nat} {v:Value} {l:List Int},aj Jq B v l->aj ((PA.setCell ⟨fb,f*2,none⟩ (.slice Yj L1.length Yx)).setCell ⟨fb,f*2+1,none⟩ (.slice (some ⟨fz,0,none⟩) N N)) B v l:=fun {B} {v} {l} hr=>by
   have h1:=hr.aD ke (by simp);exact h1.aD aZ (fun b hb hm=>(h1.cA (by simpa using hb)).ne (oJ b hm) (by decide) rfl)
  have ZK:=lh (aJ acy.out);have Xp:=lh (aJ WY.out);have adf:=lh (aJ WB.out);have VE:=lh ((PS.out.tr ke).trans aZ (fun j hj=>Qf (by rw[Qa.1 hj];exact fD.out.2.2.2.1 fb rfl)));have zx:=lh VH;have Fa:=lh DJ;have abX:bb ∉ [fb]:=fun q=>by
   have h1:bp PA bb 3:=by
    have h2:bp Jq bb 3:=⟨_,_,GA.out⟩;exact h2.aD ke (by simp)
   exact h1.ne (oJ bb q) (by decide) rfl
  have MX:=lh (aZ.heap (ke.hp GA.out) abX);have amM:=lh (Qc Us.out (Qc ke.size aZ.size));have aa2:=Qc akz (Qc ke.size aZ.size);clear aZ aJ PR oJ VH DJ ZU Ux hr14 hbb1 hr13 bF jl ke hc15 acg adl abX MJ RI acy WY WB PS MB GA Us T4 x0 q3 N9 WK W9 wj ahY aaq;generalize (PA.setCell ⟨fb,f*2,none⟩ (.slice Yj L1.length Yx)).setCell ⟨fb,f*2+1,none⟩ (.slice (some ⟨fz,0,none⟩) N N)=tz at *;obtain⟨xs1,aas⟩:∃ xs1,((xs.set (f*2) (.slice Yj L1.length Yx)).set (f*2+1) (.slice (some ⟨fz,0,none⟩) N N))=xs1:=⟨_,rfl⟩;rw[aas] at zx Fa;clear aas;obtain⟨F1,yS⟩:∃ F1,s.ak.set f L1=F1:=⟨_,rfl⟩;have UR:=lh yS;have VR:F1.length=F0:=by rw[<-yS,Qz];exact OV.out
  rw[yS] at zx;rw[OV.out] at zx AX;clear yS;obtain⟨x0,-,-,-⟩:=kF.out _ VE.out;have q3:=AX.out.q3;have oJ:bp tz fb 158:=bE zx.out.out rfl;have Nl:pb ∉ [fb]:=by
   rw[Qa];intro e;have h1:=(fD.out.1 fb (fD.out.2.2.2.1 fb rfl)).2;have h2:=te.out;omega
  have EP:sb ∉ [fb]:=fun q=>AX.out.kind.ne (by rw[Qa.1 q];exact oJ) (by decide) rfl;have abE:ob ∉ [fb]:=fun q=>AX.out.on.cA.ne (by rw[Qa.1 q];exact oJ) (by decide) rfl;have Po:=(zx.out.out.lt fb rfl).1;have agp:F0<68719476736:=by omega
  have HB0:=lh (show w0.heap.size<=tz.heap.size from AX.out.aD.size);have ER:=zx.out.out;rw[VR] at ER;have Np:=lh ER;have WZ:=lh VR;clear ER oJ VR
  go_wp2_with fail
  have aW:ag [fb] tz tz.drew:=(ag.refl [fb] tz).drew;refine ar (ag [fb] tz) [0,1,2,3,4,5,6,7,8,9,15,16] (Way.line [0,1,2,3,4,5,6,7,8,9,10,11,12,13,14,15,16,17] .done) (by kernel_rfl) (by kernel_rfl) ?_;simp only[Way.line];have zm:ag [] tz tz.drew:=(ag.refl [] tz).drew
  repeat (refine ai (v:=?_) rfl (by rfl) (by rfl) (fun _ _ _ h=>h) aW (fun w' aI=>?_) ?_;rotate_left;(focus (have gB:=aI.cell x0 (by first | exact Nl | exact EP);have gQ:=aI.cell q3 (by first | exact Nl | exact EP);clear aI;go_simp;try with_reducible rfl));simp only[Qb,Z1,Z2,Z3,Z4,Z5,Z6])
  refine au rfl (by rfl) (by rfl) (fun K hK=>?_);go_simp;refine hK.out _ _ (fun _=>aW.alloc (.cells #[.slice (some ⟨wb,0,none⟩) wy.length p4,.slice (some ⟨gb,j1,none⟩) (o.length - j1) (p9 - j1)] 25)) ?_;clear hK K
  try simp only[Qb,Z1,Z2,Z3,Z4,Z5,Z6]
  refine au rfl (by rfl) (by rfl) (fun K hK=>?_);go_simp;refine (jP (.slice (some ⟨wb,0,none⟩) wy.length p4) (.slice (some ⟨gb,j1,none⟩) (o.length - j1) (p9 - j1)) wy (o.drop j1) tz.drew (Xp.out.ints.fresh zm) ((xJ adf.out Wt).fresh zm) RN).mono ?_;rw[HL2.out];rintro e w17 ⟨v17,rfl,hr17,hc17⟩;obtain⟨Yt,XN,rfl⟩:=hr17.shape;have bF:ag [fb] tz w17:=aW.tr hc17;have ru:ag [] tz w17:=zm.tr hc17;refine hK.out _ _ (fun _=>bF) ?_;clear hK K hc17
  try simp only[Qb,Z1,Z2,Z3,Z4,Z5,Z6]
  refine au rfl (by rfl) (by rfl) (fun K hK=>?_);go_simp;refine (lF sb N _ _ g L2 w17 (AX.out.fresh ru).wL V7 UY.out hr17.ints).mono ?_;rintro e OS ⟨ff,rfl,hbb2,hc18⟩;have jl:ag [fb] tz OS:=bF.tr hc18;have EE:ag [] tz OS:=ru.tr hc18;refine hK.out _ _ (fun _=>jl) ?_;clear hK K
  try simp only[Qb,Z1,Z2,Z3,Z4,Z5,Z6]
  refine au rfl (by rfl) (by rfl) (fun K hK=>?_);go_simp;refine hK.out _ _ (fun _=>jl.alloc (.cells #[.slice Yt L2.length XN,.slice (some ⟨ff,0,none⟩) N N] 158)) ?_;clear hK K
  try simp only[Qb,Z1,Z2,Z3,Z4,Z5,Z6]
  obtain⟨Lb,V1,UJ,ac0,acm,UZ,aj9⟩:=kZ Er (w:=OS.alloc (.cells #[.slice Yt L2.length XN,.slice (some ⟨ff,0,none⟩) N N] 158)) (aY Np.out EE (by simp)) (Qc HB0.out EE.size) (cs:=#[.slice Yt L2.length XN,.slice (some ⟨ff,0,none⟩) N N]) rfl (by intro u hu;simp at hu;rcases hu with rfl | rfl <;> rfl) agp (Qf rfl) 110;have acI:=lh ac0;have ke:ag [fb] tz UJ:=jl.trans UZ (fun j hj=>Qf (by simpa[Qd] using hj));clear ac0;refine au rfl (by rfl) (by rfl) (fun K hK=>?_);simp only[Qm,Qj,Qk];refine kS (.tmp 130) (.tmp 139) 110 rfl rfl rfl acI.out ?_;refine hK.out _ _ (fun _=>ke) ?_;clear hK K
  try simp only[Qb,Qn,Qu,Qv]
  repeat (refine ai (v:=?_) rfl (by rfl) (by rfl) (fun _ _ _ h=>h) ke (fun w' aI=>?_) ?_;rotate_left;(focus (have gB:=aI.cell x0 (by first | exact Nl | exact EP);have gQ:=aI.cell q3 (by first | exact Nl | exact EP);clear aI;go_simp;try with_reducible rfl));simp only[Qb,Z1,Z2,Z3,Z4,Z5,Z6])
  have PH:=AX.out.more ke (by simpa using Po) EP abE;have s3:=ke.cell q3 EP;have f3:=PH.free 3;refine au rfl (by rfl) (by rfl) (fun K hK=>?_);go_simp;refine hK.out _ _ (fun h=>absurd h (Qi.1 (by kernel_rfl))) ?_;clear hK K
  try simp only[Qb,Z1,Z2,Z3,Z4,Z5,Z6]
  refine aC ?_;have abj:=(hr17.aD hc18 (by simp)).base (B:=w0.heap.size) HB0.out;have TQ:=hbb2.base (B:=w0.heap.size) (Qc HB0.out ru.size);have Ve:=cG.add (w':=UJ) (fb:=Lb) (c:=V1) (zx.out.fresh EE) abj TQ (by rw[WZ.out];simpa using acm) UZ;rw[WZ.out] at Ve;have pI:∀ j∈[sb],bp UJ j 113:=fun j hj=>by rw[Qa.1 hj];exact PH.kind
  have oJ:∀ j∈[fb],bp tz j 158:=fun j hj=>by rw[Qa.1 hj];exact bE zx.out.out rfl
  have aZ:ag [sb] UJ (UJ.setCell ⟨sb,3,none⟩ (.slice (some ⟨Lb,0,none⟩) (F0+1) V1)):=(ag.refl _ _).setCell (Qf (by simp)) _;have Kp:=lh (PH.ahq (.slice (some ⟨Lb,0,none⟩) (F0+1) V1));have Gx:=lh (Ve.other aZ (fun j hj=>⟨_,pI j hj,by decide,by decide,by decide⟩));have Fe:=lh ((aaQ.out.others ke (fun j hj=>⟨_,oJ j hj,by decide,by decide⟩)).others aZ (fun j hj=>⟨_,pI j hj,by decide,by decide⟩));have aJ:∀ {B:Nat} {v:Value} {l:List Int},aj tz B v l->aj (UJ.setCell ⟨sb,3,none⟩ (.slice (some ⟨Lb,0,none⟩) (F0+1) V1)) B v l:=fun {B} {v} {l} hr=>by
   have h1:=hr.aD ke (fun b hb hm=>(hr.cA (by simpa using hb)).ne (oJ b hm) (by decide) rfl);exact h1.aD aZ (fun b hb hm=>(h1.cA (by simpa using hb)).ne (pI b hm) (by decide) rfl)
  have ad5:=lh (aJ ZK.out);have ab6:=lh (aJ Xp.out);have nr:bp tz bb 3:=⟨_,_,MX.out⟩;have Mi:=ke.heap MX.out (fun q=>nr.ne (oJ bb q) (by decide) rfl);have Tr:bp UJ bb 3:=⟨_,_,Mi⟩;have Ns:=lh (aZ.heap Mi (fun q=>Tr.ne (pI bb q) (by decide) rfl));have Zb:=lh ((VE.out.trans ke (fun j hj=>Qf (by rw[Qa.1 hj];exact fD.out.2.2.2.1 fb rfl))).trans aZ (fun j hj=>Qf (by rw[Qa.1 hj];exact fD.out.2.1)));have Fh:=lh (show mR ob (xs1++[.slice Yt L2.length XN,.slice (some ⟨ff,0,none⟩) N N]) wA from Fa.out.add (fun k b hk hb=>Xs.out b (by
   have hz:=ru.size;rcases (show k=0\/k=1 by simp at hk;omega) with rfl | rfl
   ·have h1:=(hr17.low b (by
     have:(QB Yt L2.length XN).ownBlock=some b:=hb;rw[this];simp)).1
    have h2:tz.drew.heap.size=tz.heap.size:=rfl;omega
   have:ff=b:=by simpa[Qd] using hb
   have h1:=hbb2.lt.1;omega)))
  have aqN:=Qc aa2 (Qc ke.size aZ.size);clear aZ aJ pI oJ Ve abj TQ hr17 hbb2 aW zm ru EE bF jl ke hc18 acm UZ aj9 PH s3 f3 nr Mi Tr x0 q3 acI AX zx aaQ ZK Xp adf VE Fa MX Np HB0 aa2 Nl EP abE Po RN V7 UY Wt ajr afV aii agt;generalize UJ.setCell ⟨sb,3,none⟩ (.slice (some ⟨Lb,0,none⟩) (F0+1) V1)=w20 at *;obtain⟨Fq,adX⟩:∃ Fq,xs1++[.slice Yt L2.length XN,.slice (some ⟨ff,0,none⟩) N N]=Fq:=⟨_,rfl⟩;obtain⟨F2,PD⟩:∃ F2,F1++[L2]=F2:=⟨_,rfl⟩;have oh:=lh PD;rw[adX] at Gx Fh;rw[PD] at Gx;have RG:=lh (show F2.length=F0+1 by rw[<-PD,Qe,WZ.out];rfl);clear adX PD
  -- the dt,one by one
  obtain⟨R1,XK⟩:∃ R1,s.rest.eraseIdx i=R1:=⟨_,rfl⟩;have aij:=lh XK;have Wp:n1=R1.length:=by rw[<-XK];exact Xy.out.symm
  rw[XK] at Fe;have HRF:=lh (show ∀ r∈R1,(∀ v∈r.ends,0<=v/\v<N)/\r.ends.length<=1024/\r.ak.length<=2050 from fun r hr=>HP.out.rest r (by rw[<-XK] at hr;exact List.mem_of_mem_eraseIdx hr));have arn:n1<=1024:=by
   have h1:=HP.out.rl;have h2:=Xy.out;have h3:=Qy s.rest i;omega
  clear XK;obtain⟨mi,xa⟩:∃ mi:List Nat,Hid ((∀ j∈mi,j=rb\/∃ l,l<wA.length/\(wA.getD l undef).ownBlock=some j)/\rb∈mi/\∀ l b,l<wA.length->(wA.getD l undef).ownBlock=some b->b∈mi):=by
   refine⟨rb :: (QE wA.length).flatMap fun l=>(wA.getD l undef).ownBlock.toList,lh ⟨fun j hj=>?_,by simp,fun l b hl hb=>?_⟩⟩
   ·simp only[Ql,Qp,Qt] at hj
    rcases hj with r | ⟨l,hl,r⟩
    ·exact Qf r
    exact Qw ⟨l,hl,by simpa using r⟩
   simp only[Ql,Qp,Qt];exact Qw ⟨l,hl,by rw[hb];simp⟩
  have y6:=lh (show ∀ j∈mi,j∈own from fun j hj=>by
   rcases xa.out.1 j hj with r | ⟨l,hl,r⟩
   ·rw[r];exact fD.out.2.2.2.2.1
   exact aay.out l j hl r)
  have PZ:=lh (show ∀ j∈mi,bp w20 j 162\/bp w20 j 3 from fun j hj=>by
   rcases xa.out.1 j hj with r | ⟨l,hl,r⟩
   ·rw[r];exact Qf (bE Fe.out.out rfl)
   have:=Fe.out.kind hl r;exact Qw this.2.2)
  have ajk:=lh (show sb ∉ mi from fun q=>(PZ.out sb q).elim (fun h=>Kp.out.kind.ne h (by decide) rfl) (fun h=>Kp.out.kind.ne h (by decide) rfl));have aix:=lh (show ob ∉ mi from fun q=>(PZ.out ob q).elim (fun h=>Kp.out.on.cA.ne h (by decide) rfl) (fun h=>Kp.out.on.cA.ne h (by decide) rfl));have ZI:=lh (show Lb ∉ mi from fun q=>(PZ.out Lb q).elim (fun h=>(bE Gx.out.out rfl).ne h (by decide) rfl) (fun h=>(bE Gx.out.out rfl).ne h (by decide) rfl));have Ph:=lh (show ∀ k b,k<Fq.length->(Fq.getD k undef).ownBlock=some b->b ∉ mi from fun k b hk hb q=>by
   rcases xa.out.1 b q with r | ⟨l,hl,r⟩
   ·have h1:=(Gx.out.kinds hk hb).2.2
    rw[r] at h1;have h2:bp w20 rb 162:=bE Fe.out.out rfl;exact h1.elim (fun h=>h2.ne h (by decide) rfl) (fun h=>h2.ne h (by decide) rfl)
   exact Fh.out.y k l b hk hl hb r)
  have ahG:=lh (show ∀ b,(QB o0 c.aq.length p0).ownBlock=some b->b ∉ mi from fun b hb q=>by
   rcases xa.out.1 b q with r | ⟨l,hl,r⟩
   ·have h2:bp w20 rb 162:=bE Fe.out.out rfl
    have h3:=ad5.out.cA hb;rw[r] at h3;exact h2.ne h3 (by decide) rfl
   exact agy.out l b hl r hb)
  have agB:=lh (show wb ∉ mi from fun q=>by
   have h1:=(fD.out.1 wb (y6.out wb q)).2;have h2:=te.out;have h3:=ahL.out;omega)
  have WG:=lh (show bb ∉ mi from fun q=>by
   have h1:=(fD.out.1 bb (y6.out bb q)).2;have h2:=te.out;have h3:=akp.out;omega)
  obtain⟨T,hT⟩:∃ T,Plain.jx g F2 (f:Int) (F0:Int)=T:=⟨_,rfl⟩;have Sa:=lh hT;have xc:=lh (show ∀ r:Plain.a8,(f:Int)∈r.ak->T r=⟨r.aq,r.ends,r.ak.erase (f:Int)++Plain.iq g F2 r.ends [(f:Int),(F0:Int)]⟩ from fun r h=>by rw[<-hT];exact Kh h);have abC:=lh (show ∀ r:Plain.a8,(f:Int) ∉ r.ak->T r=r from fun r h=>by rw[<-hT];exact FP h);have ki:=lh (show ∀ j,j<=n1->(gJ T R1 j).length=n1 from fun j hj=>by rw[Bd (by omega)];exact Wp.symm);have ac4:=lh Wp;have an4:=lh (show wb<w20.heap.size/\bb<w20.heap.size from⟨(ab6.out.low wb (by simp[Qd])).2,(show bp w20 bb 3 from⟨_,_,Ns.out⟩).lt⟩);have amY:=Fe.out.cells;clear hT Wp;have q4:=Kp.out.q4;obtain⟨x0,-,-,-⟩:=kF.out _ Zb.out
  go_wp2_with fail
  clear x0 q4
  go_loopw [15,16,17,148] (fun _ _ _ cj wx=>∃ j:Nat,j<=n1/\cj=.int .i64 j/\∃ zs,bu wx w0.heap.size 162 3 (.slice (some ⟨rb,0,none⟩) n1 rc) n1 zs (dF (gJ T R1 j))/\Hid (∀ l b,l<zs.length->(zs.getD l undef).ownBlock=some b->b∈mi\/w20.heap.size<=b)/\Hid (∀ l,3*j<=l->zs.getD l undef=wA.getD l undef)/\ag mi w20 wx) (fun _ _ _ cj _=>n1 - (intOf cj).toNat)
  case atStart=>exact⟨0,QD _,rfl,wA,by rw[Ik];exact Fe.out,lh (fun l b hl hb=>Qf (xa.out.2.2 l b hl hb)),lh (fun _ _=>rfl),ag.refl _ _⟩
  case round =>
   obtain⟨j,hj,rfl,zs,NI,HZL,XI,Jb⟩:=hrel;have VC:=lh NI;have TC:=lh Jb;have Xb:=Zb.out.trans Jb (fun k hk=>Qf (y6.out k hk));have HTZ:=lh Xb;have hbz:=Kp.out.more Jb (fun k hk=>(fD.out.1 k (y6.out k hk)).1) ajk.out aix.out;have Ww:=lh hbz;have Ty:=lh (Gx.out.aD Jb (fun b hb=>by
    have e:Lb=b:=by simpa[Qd] using hb
    rw[<-e];exact ZI.out) Ph.out)
   obtain⟨x0,-,-,-⟩:=kF.out _ Xb;have q4:=hbz.q4;have Zs:=NI.cells;by_cases aL:j<n1
   ·obtain⟨r,hr⟩:∃ r,R1.getD j ⟨[],[],[]⟩=r:=⟨_,rfl⟩
    have PY:j<R1.length:=by have:=ac4.out;omega
    have TW:r∈R1:=by rw[<-hr];simp[Qx,PY]
    obtain⟨t0,t1,t2⟩:=zK (R:=gJ T R1 j) (j:=j) (by rw[ki.out j hj];exact aL);rw[zA PY,hr] at t0 t1 t2;have k1:=NI.cell (k:=3*j+1) (by omega);have k2:=NI.cell (k:=3*j+2) (by omega);have m1:=NI.row t1;have m2:=NI.row t2;rw[Qs 3 j] at k1 k2 m1 m2 t2;obtain⟨u1,Ex⟩:∃ u,zs.getD (j*3+1) undef=u:=⟨_,rfl⟩;obtain⟨u2,Dt⟩:∃ u,zs.getD (j*3+2) undef=u:=⟨_,rfl⟩;rw[Ex] at k1 m1;rw[Dt] at k2 m2;have Ur:∀ b,u1.ownBlock=some b->u2.ownBlock≠some b:=fun b h1 h2=>by
     rcases NI.apart (j*3+1) (j*3+2) (by omega) (by omega) (by omega) with q | q
     ·rw[Ex,h1] at q;cases q
     rw[Ex,Dt,h1,h2] at q;exact q rfl
    have adJ:∀ b,u2.ownBlock=some b->b∈mi:=fun b hb=>by
     rw[<-Dt,XI.out _ (by omega)] at hb;exact xa.out.2.2 _ b (by omega) hb
    obtain⟨o1,c1,rfl⟩:=m1.shape;obtain⟨o2,c2,rfl⟩:=m2.shape;have Dz:=lh m1;have mr:=lh m2;have DF:=lh t2;have HU2:=lh Dt;have Zj:=lh Ur;have aiD:=lh adJ;have VB:=lh (HRF.out r TW);have ajm:r.ak.length<1000000000:=by have:=VB.out.2.2;omega
    have lA:(j:Int)<(n1:Int):=by omega
    have HJR:=lh PY;have PB:=lh hr;clear hr PY TW t0 t1 t2 Ex Dt Ur adJ m1 NI Jb Xb hbz
    go_wp2_with fail
    refine (Lr _ r.ak (f:Int) _ _ ajm m2).mono ?_;rintro e Rp ⟨rfl,hc22⟩;by_cases hfm:(f:Int)∈r.ak
    ·obtain⟨e1,e2,e3⟩:=Plain.SD hfm
     rw[e1];obtain⟨kx,hkx⟩:∃ kx,r.ak.idxOf (f:Int)=kx:=⟨_,rfl⟩;rw[hkx] at e2 e3 ⊢;obtain⟨gg,eg,-⟩:=m2.some (by omega);subst eg;have Et:=aiD.out gg rfl;have Wd:=m2.cA (b:=gg) rfl;have zf:pb ∉ [gg]:=by
      rw[Qa];intro q;have h1:=(fD.out.1 gg (y6.out gg Et)).2;have h2:=te.out;omega
     have tS:rb ∉ [gg]:=by
      rw[Qa];exact (bE VC.out.out rfl).ne Wd (by decide)
     have af5:sb ∉ [gg]:=by
      rw[Qa];exact Ww.out.kind.ne Wd (by decide)
     have af0:ob ∉ [gg]:=by
      rw[Qa];exact Ww.out.on.cA.ne Wd (by decide)
     have agO:bb ∉ [gg]:=by
      rw[Qa];exact fun q=>WG.out (q ▸ Et)
     have wk:IntKind.i64.wrap ((kx:Int)+1)=(kx:Int)+1:=IntWalk.i64_in _ (by omega);have hkp:(0:Int)<=(kx:Int):=by omega
     obtain⟨E1,hE1⟩:∃ E1,r.ak.eraseIdx kx=E1:=⟨_,rfl⟩;have HE1:=lh hE1;have arK:E1.length<=2050:=by
      have:=Qy r.ak kx;have:=VB.out.2.2;rw[<-hE1];omega
     obtain⟨FT,hFT⟩:∃ FT,Plain.iq g F2 r.ends [(f:Int),(F0:Int)]=FT:=⟨_,rfl⟩;have zC:=lh hFT;have at1:FT.length<=2:=by
      rw[<-hFT];unfold Plain.iq;exact QA _ _
     obtain⟨GL,VM⟩:∃ GL,E1++FT=GL:=⟨_,rfl⟩;have ahk:=lh VM;have iu:E1.length+FT.length<4294967296:=by omega
     have LW:=lh (show T r=⟨r.aq,r.ends,GL⟩ by rw[xc.out r hfm,<-VM,<-hFT,<-hE1,e3]);have LO:∀ x∈[(f:Int),(F0:Int)],0<=x/\x<(F2.length:Int):=fun x hx=>by
      have h1:=RG.out;rcases Ql.1 hx with q | q
      ·rw[q];omega
      rw[Qa.1 q];omega
     have Vp:=lh LO;have Xd:F2.length<1000000:=by have:=RG.out;omega
     have hrel:r.ends.length<1000000:=by have:=VB.out.2.1;omega
     have hIF:aU (f:Int):=aU.mk (by omega) (by omega);have Vq:aU (F0:Int):=aU.mk (by omega) (by omega);have y0:=hc22.dp x0;have y1:=hc22.dp k1;have y2:=hc22.dp k2;have SG:=lh (VC.out.fresh hc22);have ahQ:=lh (Ww.out.fresh hc22);have ahn:=lh (Ty.out.fresh hc22);have adD:=lh (Dz.out.aD hc22 (by simp));have abo:=lh (m2.aD hc22 (by simp));have NX:=lh (TC.out.tr hc22);clear hkx e1 e3 hE1 hFT VM LO hc22 k1 k2 m2 x0 q4 Wd hfm
     go_wp2_with fail
     have aW:ag [gg] Rp Rp.drew:=(ag.refl [gg] Rp).drew;refine ar (ag [gg] Rp) [0,1,2,3,4,5,6,7,9,10,11,12,13,14,17,18] (Way.line [0,1,2,3,4,5,6,7,9,10,11,12,13,14,8,15,16,17,18,19] .done) (by kernel_rfl) (by kernel_rfl) ?_;simp only[Way.line]
     repeat (refine ai (v:=?_) rfl (by rfl) (by rfl) (fun _ _ _ h=>h) aW (fun w' aI=>?_) ?_;rotate_left;(focus (have gB:=aI.cell y0 (by first | exact zf | exact tS);have gQ:=aI.cell y1 (by first | exact zf | exact tS);have np:=aI.cell y2 (by first | exact zf | exact tS);clear aI;go_simp;try with_reducible rfl));simp only[Qb,Z1,Z2,Z3,Z4,Z5,Z6])
     refine au rfl (by rfl) (by rfl) (fun K hK=>?_);go_simp;refine (NP gg c2 kx w0.heap.size r.ak Rp.drew (abo.out.aD (ag.refl [] Rp).drew (by simp)) e2).mono ?_;rw[HE1.out];rintro e w23 ⟨rfl,hr23,hc23⟩;have bF:ag [gg] Rp w23:=aW.trans hc23 (fun k hk=>Qf hk);refine hK.out _ _ (fun _=>bF) ?_;clear hK K aW hc23
     try simp only[Qb,Z1,Z2,Z3,Z4,Z5,Z6]
     repeat (refine ai (v:=?_) rfl (by rfl) (by rfl) (fun _ _ _ h=>h) bF (fun w' aI=>?_) ?_;rotate_left;(focus (have gB:=aI.cell y0 (by first | exact zf | exact tS);have gQ:=aI.cell y1 (by first | exact zf | exact tS);have np:=aI.cell y2 (by first | exact zf | exact tS);clear aI;go_simp;try with_reducible rfl));simp only[Qb,Z1,Z2,Z3,Z4,Z5,Z6])
     have Vm:=ahQ.out.more bF (by simpa using (fD.out.1 gg (y6.out gg Et)).1) af5 af0;have aag:=ahn.out.aD bF (fun b hb hm=>by
      have e:Lb=b:=by simpa[Qd] using hb
      rw[Qa] at hm;exact ZI.out (by rw[e,hm];exact Et)) (fun k b hk hb hm=>by
      rw[Qa] at hm;exact Ph.out k b hk hb (by rw[hm];exact Et))
     have acf:=adD.out.aD bF (fun b hb hm=>by
      rw[Qa] at hm;exact Zj.out b (by simpa using hb) (by rw[hm];rfl))
     have Ul:=bF.heap (NX.out.heap Ns.out WG.out) agO;refine au rfl (by rfl) (by rfl) (fun K hK=>?_);go_simp;refine (rR sb N w0.heap.size _ _ _ g F2 Fq r.ends [(f:Int),(F0:Int)] w23 Vm.q3 aag hrel (by simp) VB.out.1 Vp.out Xd acf.ints (Ie Ul hIF Vq)).mono ?_;rw[zC.out];rintro e w24 ⟨v24,rfl,hr24,hc24⟩;obtain⟨o24,p24,rfl⟩:=hr24.shape;have jl:ag [gg] Rp w24:=bF.tr hc24;refine hK.out _ _ (fun _=>jl) ?_;clear hK K
     try simp only[Qb,Z1,Z2,Z3,Z4,Z5,Z6]
     refine au rfl (by rfl) (by rfl) (fun K hK=>?_);simp only[Qm,Qj,Qk];refine Mk (v:=.slice (some ⟨gg,0,none⟩) E1.length c2) (u:=.slice o24 FT.length p24) (.tmp 173) (.tmp 180) rfl rfl rfl (hr23.aD hc24 (by simp)) hr24 (Vm.fresh hc24).aD.size iu (fun v25 w25 r1 r2 r3=>?_);have ke:ag [gg] Rp w25:=jl.trans r2 (fun k hk=>Qf (by simpa[aE,Qd] using hk));rw[ahk.out] at r1;obtain⟨Sj,Rv,rfl⟩:=r1.shape;refine hK.out _ _ (fun _=>ke) ?_;clear hK K
     try simp only[Qb,Qn,Qu,Qv]
     repeat (refine ai (v:=?_) rfl (by rfl) (by rfl) (fun _ _ _ h=>h) ke (fun w' aI=>?_) ?_;rotate_left;(focus (have gB:=aI.cell y0 (by first | exact zf | exact tS);have gQ:=aI.cell y1 (by first | exact zf | exact tS);have np:=aI.cell y2 (by first | exact zf | exact tS);clear aI;go_simp;try with_reducible rfl));simp only[Qb,Z1,Z2,Z3,Z4,Z5,Z6])
     have z2:=ke.cell y2 tS;obtain⟨rcs,hrh⟩:=Bk SG.out.out;have z3:=bJ (ke.heap hrh tS) (j*3+2);refine au rfl (by rfl) (by rfl) (fun K hK=>?_);go_simp;refine hK.out _ _ (fun h=>absurd h (Qi.1 (by kernel_rfl))) ?_;clear hK K
     try simp only[Qb,Z1,Z2,Z3,Z4,Z5,Z6]
     refine aC ?_;have hzq:j*3+2<zs.length:=by omega
     have Vf:=SG.out.put (q:=j*3+2) (v:=.slice Sj GL.length Rv) (by decide) hzq DF.out r1 (by rw[HU2.out];exact ke) (fun b hb=>by
      rw[HU2.out];rcases r3 b hb with q | q
      ·exact Qf q
      exact Qw (Qc jl.size q))
     have Sc:(dF (gJ T R1 j)).set (j*3+2) (.row GL)=dF (gJ T R1 (j+1)):=by
      have h1:=ki.out j hj;have h2:=zA (t:=T) HJR.out ⟨[],[],[]⟩;rw[yr HJR.out ⟨[],[],[]⟩,PB.out,LW.out];exact Ci (c:=⟨r.aq,r.ends,GL⟩) (by omega) (by rw[h2,PB.out]) (by rw[h2,PB.out])
     rw[Sc] at Vf;have Yi:=lh Vf;have agJ:=lh (show ∀ l b,l<(zs.set (j*3+2) (.slice Sj GL.length Rv)).length->((zs.set (j*3+2) (.slice Sj GL.length Rv)).getD l undef).ownBlock=some b->b∈mi\/w20.heap.size<=b from fun l b hl hb=>by
      rw[Qz] at hl;rw[dM _ _ _ _ _ hzq] at hb;by_cases q:l=j*3+2
      ·rw[if_pos q] at hb
       rcases r3 b (by rw[show aE (.slice Sj GL.length Rv)=(QB Sj GL.length Rv).ownBlock.toList from rfl,hb];simp) with t | t
       ·left
        have:b=gg:=by simpa[aE,Qd] using t
        rw[this];exact Et
       right;have h1:=NX.out.size;have h2:=jl.size;omega
      rw[if_neg q] at hb;exact HZL.out l b hl hb)
     have agc:=lh (show ∀ l,3*(j+1)<=l->(zs.set (j*3+2) (.slice Sj GL.length Rv)).getD l undef=wA.getD l undef from fun l hl=>by
      rw[dM _ _ _ _ _ hzq,if_neg (by omega)];exact XI.out l (by omega))
     have qh:=lh (show ag mi w20 (w25.setCell ⟨rb,j*3+2,none⟩ (.slice Sj GL.length Rv)) from ((NX.out.trans ke (fun k hk=>Qf (by rw[Qa.1 hk];exact Et))).setCell (p:=⟨rb,j*3+2,none⟩) (Qf xa.out.2.1) _));clear Vf Sc bF jl ke r1 r2 r3 hr23 hr24 hc24 Vm aag acf Ul hrh z2 z3 y0 y1 y2 hzq;generalize w25.setCell ⟨rb,j*3+2,none⟩ (.slice Sj GL.length Rv)=w26 at *;generalize zs.set (j*3+2) (.slice Sj GL.length Rv)=zs2 at *;go_wp2
     go_roundw
     case rel=>exact⟨j+1,by omega,by go_num,zs2,Yi.out,agJ,agc,qh.out⟩
     case measure=>simp[intOf];omega
    have e1:Plain.Zy r.ak (f:Int) = -1:=if_neg hfm;rw[e1];have Zt:=lh (show gJ T R1 (j+1)=gJ T R1 j from Jk HJR.out ⟨[],[],[]⟩ (by rw[PB.out];exact abC.out r hfm));have SG:=lh (VC.out.fresh hc22);have NX:=lh (TC.out.tr hc22);clear hc22 k1 k2 m2 x0 q4;go_wp2
    go_roundw
    case rel=>exact⟨j+1,by omega,by go_num,zs,by rw[Zt.out];exact SG.out,HZL,lh (fun l hl=>XI.out l (by omega)),NX.out⟩
    case measure=>simp[intOf];omega
   have e:j=n1:=by omega
   subst e;have HNR:=lh (show gJ T R1 j=R1.map T by rw[ac4.out];exact Oe T R1);have I0:=ad5.out.aD TC.out (fun b hb hm=>ahG.out b (by simpa using hb) hm);have UL:=ab6.out.aD TC.out (fun b hb hm=>by
    have e:b=wb:=by simpa[Qd] using hb
    exact agB.out (by rw[<-e];exact hm))
   have adh:=TC.out.heap Ns.out WG.out;have HEZ:=lh I0;have HWZ:=lh UL;have ajs:=lh adh;obtain⟨W,hW⟩:∃ W,Plain.aX c.aq wy=W:=⟨_,rfl⟩;have HWW:=lh hW;have hWl:W.length<=1024:=by
    rw[<-hW];exact Qc (QA _ _) HP.out.Hk
   have aj2:=lh (show ∀ e∈W,0<=e/\e<g.e.length from fun e he=>by
    rw[<-hW] at he;exact HP.out.aq e (Plain.cP.1 he).1)
   obtain⟨SC,O3⟩:∃ SC,Plain.dt g (Plain.jO g s.on wy) F2 W [(f:Int),(F0:Int)]=SC:=⟨_,rfl⟩;have HSC:=lh O3;have arA:SC.length<=1024:=by
    rw[<-O3];exact Qc (Plain.KI (by rw[<-hW];exact HP.out.part.en.filter _)) hWl
   have HED:=lh (show ∀ e∈c.aq,0<=e/\e<1000000 from fun e he=>by
    have h1:=HP.out.aq e he;have h2:=fZ.out;omega)
   have LO:∀ x∈[(f:Int),(F0:Int)],0<=x/\x<(F2.length:Int):=fun x hx=>by
    have h1:=RG.out;rcases Ql.1 hx with q | q
    ·rw[q];omega
    rw[Qa.1 q];omega
   have Vp:=lh LO;have Xd:F2.length<1000000:=by have:=RG.out;omega
   have hIF:aU (f:Int):=aU.mk (by omega) (by omega);have Vq:aU (F0:Int):=aU.mk (by omega) (by omega);have abc:c.aq.length<=1000000:=by omega
   have apN:rb<wr.heap.size:=(bE VC.out.out rfl).lt;have PO:bp wr rb 162:=bE VC.out.out rfl;have oL:pb ∉ [rb]:=by
    rw[Qa];intro q;have h1:=(fD.out.1 rb fD.out.2.2.2.2.1).2;have h2:=te.out;omega
   have pH:pb+1 ∉ [rb]:=by
    rw[Qa];intro q;have h1:=(fD.out.1 rb fD.out.2.2.2.2.1).2;have h2:=te.out;omega
   have mq:sb ∉ [rb]:=by
    rw[Qa];exact Ww.out.kind.ne PO (by decide)
   have ahR:ob ∉ [rb]:=by
    rw[Qa];exact Ww.out.on.cA.ne PO (by decide)
   have aid:Lb ∉ [rb]:=by
    rw[Qa];exact (bE Ty.out.out rfl).ne PO (by decide)
   have ZO:=(fD.out.1 rb fD.out.2.2.2.2.1).1;have Vz:j+SC.length<68719476736:=by omega
   obtain⟨x0,x1,-,-⟩:=kF.out _ HTZ.out;clear hW O3 LO I0 UL adh PO
   go_wp2_with fail
   have aW:ag [rb] wr wr.drew:=(ag.refl [rb] wr).drew;refine ar (ag [rb] wr) [0,1,2,3,4,5,6,7,8,10,13,14] (Way.line [0,1,2,3,4,5,6,7,8,10,9,11,12,13,14,15] .done) (by kernel_rfl) (by kernel_rfl) ?_;simp only[Way.line];have zm:ag [] wr wr.drew:=(ag.refl [] wr).drew
   repeat (refine ai (v:=?_) rfl (by rfl) (by rfl) (fun _ _ _ h=>h) aW (fun w' aI=>?_) ?_;rotate_left;(focus (have gB:=aI.cell x0 (by first | exact oL | exact pH | exact mq);have gQ:=aI.cell x1 (by first | exact oL | exact pH | exact mq);have np:=aI.cell q4 (by first | exact oL | exact pH | exact mq);clear aI;go_simp;try with_reducible rfl));simp only[Qb,Z1,Z2,Z3,Z4,Z5,Z6])
   refine au rfl (by rfl) (by rfl) (fun K hK=>?_);go_simp;refine (sa _ _ c.aq wy wr.drew abc adw HED.out (HEZ.out.aD zm (by simp)).ints (HWZ.out.aD zm (by simp)).ints).mono ?_;rw[HWW.out];rintro e w31 ⟨v31,rfl,hr31,hc31⟩;obtain⟨o31,p31,rfl⟩:=hr31.shape;have bF:ag [rb] wr w31:=aW.tr hc31;have ru:ag [] wr w31:=zm.tr hc31;refine hK.out _ _ (fun _=>bF) ?_;clear hK K aW zm hc31
   try simp only[Qb,Z1,Z2,Z3,Z4,Z5,Z6]
   repeat (refine ai (v:=?_) rfl (by rfl) (by rfl) (fun _ _ _ h=>h) bF (fun w' aI=>?_) ?_;rotate_left;(focus (have gB:=aI.cell x0 (by first | exact oL | exact pH | exact mq);have gQ:=aI.cell x1 (by first | exact oL | exact pH | exact mq);have np:=aI.cell q4 (by first | exact oL | exact pH | exact mq);clear aI;go_simp;try with_reducible rfl));simp only[Qb,Z1,Z2,Z3,Z4,Z5,Z6])
   have FW:=Ww.out.fresh ru;refine au rfl (by rfl) (by rfl) (fun K hK=>?_);go_simp;refine (vT sb ob N w0.heap.size _ _ _ _ g (Plain.jO g s.on wy) F2 Fq W [(f:Int),(F0:Int)] w31 FW.wL FW.q2 FW.on FW.q3 (Ty.out.fresh ru) Xd hWl aj2.out hr31.ints (by simp) Vp.out (Ie (ru.hp ajs.out) hIF Vq)).mono ?_;rw[HSC.out];rintro e w32 ⟨v32,ys3,rfl,hn32,hc32⟩;obtain⟨o32,p32,rfl⟩:=hn32.shape;have jl:ag [rb] wr w32:=bF.tr hc32;have EE:ag [] wr w32:=ru.tr hc32;refine hK.out _ _ (fun _=>jl) ?_;clear hK K
   try simp only[Qb,Z1,Z2,Z3,Z4,Z5,Z6]
   have On:=VC.out.fresh EE;refine au rfl (by rfl) (by rfl) (fun K hK=>?_);simp only[Qm,Qj,Qk];refine yD kL (v:=.slice (some ⟨rb,0,none⟩) j rc) (u:=.slice o32 SC.length p32) (.tmp 189) (.tmp 196) rfl rfl rfl On.out hn32.out (FW.fresh hc32).aD.size (fun u hu=>by
    obtain⟨k,hk,rfl⟩:=List.mem_iff_getElem.1 hu;obtain⟨cc,-,ka⟩:=hn32.fit hk;have:=ka.one;simpa[Qx,hk] using this) Vz (fun v33 ZR r1 r2 r3=>?_)
   have ke:ag [rb] wr ZR:=jl.trans r2 (fun k hk=>Qf (by simpa[Qd] using hk));obtain⟨o33,p33,rfl⟩:=bk r1;refine hK.out _ _ (fun _=>ke) ?_;clear hK K
   try simp only[Qb,Qn,Qu,Qv]
   repeat (refine ai (v:=?_) rfl (by rfl) (by rfl) (fun _ _ _ h=>h) ke (fun w' aI=>?_) ?_;rotate_left;(focus (have gB:=aI.cell x0 (by first | exact oL | exact pH | exact mq);have gQ:=aI.cell x1 (by first | exact oL | exact pH | exact mq);have np:=aI.cell q4 (by first | exact oL | exact pH | exact mq);clear aI;go_simp;try with_reducible rfl));simp only[Qb,Z1,Z2,Z3,Z4,Z5,Z6])
   have N7:=Ww.out.more ke (by simpa using ZO) mq ahR;have s4:=N7.q4;have f4:=N7.free 4;refine au rfl (by rfl) (by rfl) (fun K hK=>?_);go_simp;refine hK.out _ _ (fun h=>absurd h (Qi.1 (by kernel_rfl))) ?_;clear hK K
   try simp only[Qb,Z1,Z2,Z3,Z4,Z5,Z6]
   refine aC ?_;have Tl:=hn32.base (B:=w0.heap.size) FW.aD.size;have adT:∀ k l b,k<zs.length->l<ys3.length->(zs.getD k undef).ownBlock=some b->(ys3.getD l undef).ownBlock≠some b:=fun k l b hk hl hb hc=>by
    have h1:=(VC.out.kind hk hb).2.1;have h2:=(hn32.kind hl hc).1;have h3:=ru.size;omega
   have MW:=On.cat Tl (by decide) adT r1 r2;have aZ:ag [sb] ZR (ZR.setCell ⟨sb,4,none⟩ (.slice o33 (j+SC.length) p33)):=(ag.refl _ _).setCell (Qf (by simp)) _;have pI:∀ k∈[sb],bp ZR k 113:=fun k hk=>by rw[Qa.1 hk];exact N7.kind
   have HBF:=lh (N7.ac7 (.slice o33 (j+SC.length) p33));have adj:=Ty.out.aD ke (fun b hb hm=>by
    have e:Lb=b:=by simpa[Qd] using hb
    exact aid (by rw[e];exact hm)) (fun k b hk hb hm=>by
    rw[Qa] at hm;exact Ph.out k b hk hb (by rw[hm];exact xa.out.2.1))
   have HFF:=lh (adj.other aZ (fun k hk=>⟨_,pI k hk,by decide,by decide,by decide⟩));have VS:=lh (MW.others aZ (fun k hk=>⟨_,pI k hk,by decide,by decide⟩));have aj1:=lh (show mR ob Fq (zs++ys3) from⟨Fh.out.o,fun k l b hk hl hb hc=>by
    rw[Qe] at hl;have jj:=(Gx.out.kinds hk hb).2.1;by_cases q:l<zs.length
    ·rw[cN q] at hc
     rcases HZL.out l b q hc with t | t
     ·exact Ph.out k b hk hb t
     omega
    rw[dE (by omega)] at hc;have h2:=(hn32.kind (by omega) hc).1;have h3:=ru.size;have h4:=TC.out.size;omega⟩)
   have FY:=lh (show s.put g b.v i=⟨Plain.jO g s.on wy,F2,gJ T R1 j++SC⟩ by
    rw[Rl.out k1 j1 o HK1.out HO.out HJ1.out,aij.out,OV.out,Pa.out,HL2.out,UR.out,oh.out,Sa.out,HWW.out,HSC.out,HNR.out])
   have hlen:(gJ T R1 j++SC).length=j+SC.length:=by rw[Qe,ki.out j hj]
   have hs3:dF (gJ T R1 j)++dF SC=dF (gJ T R1 j++SC):=by simp[dF]
   clear MW aZ pI adj N7 FW On hn32 Tl adT r1 r2 r3 ru EE bF jl ke hc32 hr31 s4 f4 x0 x1 q4;generalize ZR.setCell ⟨sb,4,none⟩ (.slice o33 (j+SC.length) p33)=w34 at *;go_wp2;refine bodyPost_end (v:=.tuple #[]) (by simp[results,Tryz.results84,go_sem]) rfl ?_;refine⟨rfl,.slice (some ⟨Lb,0,none⟩) (F0+1) V1,.slice o33 (j+SC.length) p33,Fq,zs++ys3,?_⟩;rw[FY.out];refine⟨HBF.out,HFF.out,?_,aj1.out⟩;show bu w34 w0.heap.size 162 3 _ (gJ T R1 j++SC).length _ (dF (gJ T R1 j++SC));rw[hlen,<-hs3];exact VS.out
end Go.Proofs.YtoiflofhcmjpoaaGreat
