/- draw.put: contract. Conditions: a sketch of the call's own that keeps to what sketches keep to; a scrap of it that fits in a xt. -/
import Derived.Test.YtoiflofhcmjpoaaGreatF9RingOk
set_option maxRecDepth 100000
set_option maxHeartbeats 8000000
open List renaming mem_singleton→Qa,length_append→Qe,length_drop→Qg,mem_append→Qh,getElem_cons_zero→Qj,getElem_cons_succ→Qk,mem_cons→Ql,getElem_toArray→Qm,setIfInBounds_toArray→Qn,length_take→Qo,mem_flatMap→Qp,mem_of_mem_drop→Qq,mem_of_mem_take→Qr,mem_range→Qt,set_cons_zero→Qu,set_cons_succ→Qv,getD→Qx,length_eraseIdx_le→Qy,length_set→Qz,length_filter_le→QA,range→QE
open Go.Act renaming put→Qb
open Nat renaming le_trans→Qc,mul_comm→Qs,zero_le→QD
open Go.Value renaming ownBlock→Qd,slice→QB,agg→QF,int→QG
open Or renaming inl→Qf,inr→Qw
open Bool renaming eq_false_iff→Qi
open Option renaming some→QC
-- READS ONLY
namespace Go.Proofs.YtoiflofhcmjpoaaGreat
open Plain
open Go.RowKit Go.Maps
variable {w:World} {B g n k:Nat} {l:List Int}
theorem Bv {c:Nat} (h:aw w B (.slice (some ⟨g,0,none⟩) n c) l) (hk:k<=l.length):aI w (.slice (some ⟨g,k,none⟩) (n - k) (c - k)) (l.drop k):=by
 obtain⟨rfl,-⟩:=qt h;have hm:=h.2.2;refine⟨_,c - k,by rw[Qg],λx hx=>h.2.1 x (Qq hx),by rw[Qg];omega,λbn=>⟨g,k,rfl,λi hi=>?_⟩⟩;rw[Qg] at hi;obtain⟨g',e,hc⟩:=h.some (by omega);simp only[QC.injEq,Addr.mk.injEq,and_true] at e;subst e;rw[hc (k+i) (by omega)];simp[Qx,List.getElem?_drop]
theorem B0 {c:Nat} (h:aw w B (.slice (some ⟨g,0,none⟩) n c) l) (hk:k<=l.length):aI w (.slice (some ⟨g,0,none⟩) k c) (l.take k):=by
 obtain⟨rfl,-⟩:=qt h;have hm:=h.2.2;have hl:(l.take k).length=k:=by rw[Qo];omega
 refine⟨_,c,by rw[hl],λx hx=>h.2.1 x (Qr hx),by rw[hl];omega,λbn=>⟨g,0,rfl,λi hi=>?_⟩⟩;rw[hl] at hi;obtain⟨g',e,hc⟩:=h.some (by omega);simp only[QC.injEq,Addr.mk.injEq,and_true] at e;subst e;rw[Nat.zero_add,hc i (by omega)];simp[Qx,hi]
namespace Plain
variable {g:Gr} {on:Int->Bool} {w E ks:List Int}
theorem ML (g:Gr) (on:Int->Bool) (w:List Int) (v:Int):on v=eX g on (w.take 0) v:=by simp[eX]
theorem M4 {k:Nat} (hk:k<w.length) (v:Int):eX g on (w.take (k+1)) v=if v=g.tail (w.getD k 0) then true else eX g on (w.take k) v:=by
 have e:w.take (k+1)=w.take k++[w.getD k 0]:=by
  rw[List.take_add_one];simp[Qx,hk]
 unfold eX;rw[e,List.any_append];by_cases q:v=g.tail (w.getD k 0)
 ·rw[if_pos q]
  simp[q]
 rw[if_neg q];have:decide (g.tail (w.getD k 0)=v)=false:=decide_eq_false λr=>q r.symm;simp only[List.any_cons,List.any_nil,this,Bool.or_false]
theorem NS {F:List (List Int)} (hE:E.Nodup):(cw g on F E ks).length<=E.length:=by
 have h:=(ns (g:=g) (on:=on) (F:=F) (ks:=ks) hE).length_eq;rw[<-h];refine nP (f:=λc:bh=>c.ag) λc hc=>?_;obtain⟨l,hl,rfl⟩:=List.mem_map.1 hc;exact (lk (gP g on E).ok hl).1
theorem Nu (h:w≠[]):w.getD (w.length - 1) 0=w.getLastD 0/\w.getLastD 0∈w:=by
 rcases List.eq_nil_or_concat w with r | ⟨m,e,r⟩
 ·exact absurd r h
 rw[List.concat_eq_append] at r;subst r;rw[List.getLastD_eq_getLast?];simp[Qx]
end Plain
theorem MJ (w0 w:World) (sb ob N i:Nat) (vE fv rv:Value) (xs ys:List Value) (g:Gr) (b:Pt) (s:Sk) (p:Pt) (aa:List (List Int)) (hO:GU w0 w sb ob N g vE fv rv xs ys s) (hb:b.err g=0) (kL:tV g b s p aa) (hi:i<s.rest.length) (hf:(s.rest.getD i ⟨[],[],[]⟩).ak≠[]) :
  Calls Tryz.prog 84 #[.pointer (some ⟨sb,0,none⟩),.int .i64 i] w λe w'=>e=.returned (.tuple #[])/\∃ fv' rv' xs' ys',GU w0 w' sb ob N g vE fv' rv' xs' ys' (s.put g b.v i):=by
 obtain⟨a,z,f,wy,old,hP⟩:=MV hb hO.base.n kL hi hf;have Fc:=lh (λk j o h1 h2 h3=>abt (k:=k) (j:=j) (o:=o) hP h1 h2 h3);have HP:=lh hP;have HB:=lh hO.base;have rZ:=lh hO.ak;have aff:=lh hO.far;have iL:=lh hO.base.A6.small;have q4:=hO.base.q4;have qX:s.rest.length<=1024:=hP.rl;obtain⟨rb,rc,hrv⟩:=hO.rest.some (by omega);subst hrv;have sJ:=lh hO.rest;have lu:=hO.rest.cells;obtain⟨t0,t1,t2⟩:=DW hi;have c0:=hO.rest.cell (k:=3*i) (by omega);have c1:=hO.rest.cell (k:=3*i+1) (by omega);have c2:=hO.rest.cell (k:=3*i+2) (by omega);have r0:=hO.rest.row t0;have r1:=hO.rest.row t1;have r2:=hO.rest.row t2;obtain⟨v0,e0⟩:∃ v,ys.getD (3*i) undef=v:=⟨_,rfl⟩;obtain⟨v1,e1⟩:∃ v,ys.getD (3*i+1) undef=v:=⟨_,rfl⟩;obtain⟨v2,e2⟩:∃ v,ys.getD (3*i+2) undef=v:=⟨_,rfl⟩;have HE0:=lh e0;rw[Qs 3 i] at c0 c1 c2;rw[Qs 3 i] at e0 e1 e2 r0 r1 r2;rw[e0] at c0 r0;rw[e1] at c1 r1;rw[e2] at c2 r2;obtain⟨c,hc⟩:∃ c,s.rest.getD i ⟨[],[],[]⟩=c:=⟨_,rfl⟩;have HC:=lh hc;rw[hc] at HP Fc r0 r1 r2 hP;obtain⟨o0,p0,rfl⟩:=r0.shape;obtain⟨o1,p1,rfl⟩:=r1.shape;obtain⟨o2,p2,rfl⟩:=r2.shape;have MH:=lh r0;have Tm:=lh r1;have Bp:=lh r2;have hii:(i:Int)<(s.rest.length:Int):=by omega
 have wi:IntKind.i64.wrap ((i:Int)+1)=(i:Int)+1:=IntWalk.i64_in _ (by omega)
 -- the blocks that may aa
 obtain⟨own,fM⟩:∃ own:List Nat,Hid ((∀ j∈own,w0.heap.size<=j/\j<w.heap.size)/\sb∈own/\ob∈own/\(∀ b,fv.ownBlock=some b->b∈own)/\rb∈own/\∀ l b,l<ys.length->(ys.getD l undef).ownBlock=some b->b∈own):=by
  refine⟨sb :: ob :: rb :: (fv.ownBlock.toList++(QE ys.length).flatMap λl=>(ys.getD l undef).ownBlock.toList),lh ⟨λj hj=>?_,by simp,by simp,λb hb=>by have PE:=hb;simp only[Ql,Qh];exact Qw (Qw (Qw (Qf (by rw[PE];simp)))),by simp,λl b hl hb=>?_⟩⟩
  ·simp only[Ql,Qh,Qp,Qt] at hj
   rcases hj with r | r | r | r | ⟨l,hl,r⟩
   ·rw[r];exact⟨hO.base.low,hO.base.kind.lt⟩
   ·rw[r];exact hO.base.on.lt
   ·rw[r];exact hO.rest.out.lt rb rfl
   ·exact hO.ak.out.lt j (by simpa using r)
   have:=hO.rest.kind hl (show _=some j by simpa using r);exact⟨this.1,this.2.1⟩
  simp only[Ql,Qh,Qp,Qt];exact Qw (Qw (Qw (Qw ⟨l,hl,by rw[hb];simp⟩)))
 obtain⟨AH,Wt⟩:∃ AH,ys.take (3*i)++ys.drop (3*i+3)=AH:=⟨_,rfl⟩;have Ko:∀ l,l<AH.length->∃ l',l'<ys.length/\l'≠3*i/\AH.getD l undef=ys.getD l' undef:=λl hl=>by
  rw[<-Wt,Qe,Qo,Qg] at hl;rw[<-Wt,tp (by omega)];by_cases q:l<3*i
  ·exact⟨l,by omega,by omega,by rw[if_pos q]⟩
  exact⟨l - 3*i+(3*i+3),by omega,by omega,by rw[if_neg q]⟩
 have af3:=lh (show ∀ l b,l<AH.length->(AH.getD l undef).ownBlock=some b->b∈own from λl b hl hb=>by
  obtain⟨l',h1,-,h3⟩:=Ko l hl;rw[h3] at hb;exact fM.out.2.2.2.2.2 l' b h1 hb)
 have YV:=lh (show oV ob xs AH from⟨aff.out.o,λk l b hk hl hb hc=>by
  obtain⟨l',h1,-,h3⟩:=Ko l hl;rw[h3] at hc;exact aff.out.y k l' b hk h1 hb hc⟩)
 have aoD:=lh (show ∀ l b,l<AH.length->(AH.getD l undef).ownBlock=some b->(QB o0 c.ag.length p0).ownBlock≠some b from λl b hl hb hc=>by
  obtain⟨l',h1,h2,h3⟩:=Ko l hl;rw[h3] at hb;rcases sJ.out.apart l' (3*i) h1 (by omega) h2 with r | r
  ·rw[r] at hb;cases hb
  rw[HE0.out] at r;exact r (hb.trans hc.symm))
 have afw:=sJ.out.out.lt rb rfl;have agM:=HB.out.kind.lt;have hrs:rb≠sb:=(bM sJ.out.out rfl).ne HB.out.kind (by decide);clear hO kL hf e1 e2 t0 t1 t2 hc r0 r1 r2;have gJ:=lh (show ai [] w ((w.alloc (.cells #[.pointer (some ⟨sb,0,none⟩)] 107)).alloc (.cells #[.slice o0 c.ag.length p0,.slice o1 c.ends.length p1,.slice o2 c.ak.length p2] 162)) from (show ai [] w ((w.alloc (.cells #[.pointer (some ⟨sb,0,none⟩)] 107)).alloc (.cells #[.slice o0 c.ag.length p0,.slice o1 c.ends.length p1,.slice o2 c.ak.length p2] 162)) from (((ai.refl [] w).alloc _).alloc _)));have cf:=heap_alloc_new w (.cells #[.pointer (some ⟨sb,0,none⟩)] 107);replace cf:=(show ai [] (w.alloc (.cells #[.pointer (some ⟨sb,0,none⟩)] 107)) ((w.alloc (.cells #[.pointer (some ⟨sb,0,none⟩)] 107)).alloc (.cells #[.slice o0 c.ag.length p0,.slice o1 c.ends.length p1,.slice o2 c.ak.length p2] 162)) from ((ai.refl [] (w.alloc (.cells #[.pointer (some ⟨sb,0,none⟩)] 107))).alloc _)).heap cf (by simp);have ig:=heap_alloc_new (w.alloc (.cells #[.pointer (some ⟨sb,0,none⟩)] 107)) (.cells #[.slice o0 c.ag.length p0,.slice o1 c.ends.length p1,.slice o2 c.ak.length p2] 162);rw[show (w.alloc (.cells #[.pointer (some ⟨sb,0,none⟩)] 107)).heap.size=w.heap.size+1 by simp] at ig;have HX:=lh (λ(w2:World) (dN:ai [] ((w.alloc (.cells #[.pointer (some ⟨sb,0,none⟩)] 107)).alloc (.cells #[.slice o0 c.ag.length p0,.slice o1 c.ends.length p1,.slice o2 c.ak.length p2] 162)) w2)=>(⟨dN.heap cf (by simp),dN.heap ig (by simp),by have hz:=dN.size;simpa using hz⟩:w2.heap[w.heap.size]?=some (.cells #[.pointer (some ⟨sb,0,none⟩)] 107 (0,0))/\w2.heap[w.heap.size+1]?=some (.cells #[.slice o0 c.ag.length p0,.slice o1 c.ends.length p1,.slice o2 c.ak.length p2] 162 (0,0))/\w.heap.size+2<=w2.heap.size));clear cf ig;have xJ:=lh (show ((w.alloc (.cells #[.pointer (some ⟨sb,0,none⟩)] 107)).alloc (.cells #[.slice o0 c.ag.length p0,.slice o1 c.ends.length p1,.slice o2 c.ak.length p2] 162)).heap.size=w.heap.size+2 by simp);have xW:=HX.out _ (ai.refl _ _);have wA:=lh (λwr (h:ai own _ wr)=>(show wr.cell? ⟨w.heap.size,0,none⟩=some (.pointer (some ⟨sb,0,none⟩))/\wr.cell? ⟨w.heap.size+1,0,none⟩=some (.slice o0 c.ag.length p0)/\wr.cell? ⟨w.heap.size+1,1,none⟩=some (.slice o1 c.ends.length p1)/\wr.cell? ⟨w.heap.size+1,2,none⟩=some (.slice o2 c.ak.length p2) from by
  have n1:w.heap.size ∉ own:=λq=>by have:=fM.out.1 _ q;omega
  have n2:w.heap.size+1 ∉ own:=λq=>by have:=fM.out.1 _ q;omega
  have h1:=h.heap xW.1 n1;have h2:=h.heap xW.2.1 n2;exact⟨(cell_of_row _ _ 0 _ _ _ h1).trans rfl,(cell_of_row _ _ 0 _ _ _ h2).trans rfl,(cell_of_row _ _ 1 _ _ _ h2).trans rfl,(cell_of_row _ _ 2 _ _ _ h2).trans rfl⟩))
 obtain⟨x0,-⟩:=wA.out _ (ai.refl _ _);have q4':=(show ai [] w (w.alloc (.cells #[.pointer (some ⟨sb,0,none⟩)] 107)) from (ai.refl _ _).alloc _).bO q4;replace c0:=(show ai [] w (w.alloc (.cells #[.pointer (some ⟨sb,0,none⟩)] 107)) from (ai.refl _ _).alloc _).bO c0;replace c1:=(show ai [] w (w.alloc (.cells #[.pointer (some ⟨sb,0,none⟩)] 107)) from (ai.refl _ _).alloc _).bO c1;replace c2:=(show ai [] w (w.alloc (.cells #[.pointer (some ⟨sb,0,none⟩)] 107)) from (ai.refl _ _).alloc _).bO c2;go_enter Tryz.func84,Tryz.ntmps84;clear xW;go_wp2_with fail;clear q4' c0 c1 c2;replace q4:=gJ.out.bO q4;generalize ((w.alloc (.cells #[.pointer (some ⟨sb,0,none⟩)] 107)).alloc (.cells #[.slice o0 c.ag.length p0,.slice o1 c.ends.length p1,.slice o2 c.ak.length p2] 162))=w1 at *;obtain⟨pb,tO⟩:∃ pb,w.heap.size=pb:=⟨_,rfl⟩;have uF:=lh tO;rw[tO] at wA x0 afw agM ⊢;have Wn:=gJ.out.size;rw[tO] at Wn;clear tO;have hpr:pb≠rb:=by omega
 have hps:pb≠sb:=by omega
 have sq:pb ∉ [rb]:=by simpa using hpr
 have oM:sb ∉ [rb]:=by simpa using λe:sb=rb=>hrs e.symm
 have FN:=lh (show ai own w1 w1 from ai.refl _ _);have aG:ai [rb] w1 w1.drew:=(ai.refl [rb] w1).drew;refine al (ai [rb] w1) [0,1,2,3,4,5,6,7,9,10] (Way.line [0,1,2,3,4,5,6,7,8,9,10,11] .done) (by kernel_rfl) (by kernel_rfl) ?_;simp only[Way.line]
 repeat (refine aj (v:=?_) rfl (by rfl) (by rfl) (λ_ _ _ h=>h) aG (λw' aB=>?_) ?_;rotate_left;(focus (have fE:=aB.cell x0 (by first | exact sq | exact oM);have fV:=aB.cell q4 (by first | exact sq | exact oM);clear aB;go_simp;try with_reducible rfl));simp only[Qb,Z1,Z2,Z3,Z4,Z5,Z6])
 refine aq rfl (by rfl) (by rfl) (λK hK=>?_);go_simp;refine (RR rb rc i w0.heap.size s.rest ys _ ((sJ.out.fresh gJ.out).fresh ((ai.refl [] w1).drew)) hi (by omega)).mono ?_;rw[Wt];rintro e w2 ⟨rfl,kr,bI⟩;have bH:ai [rb] w1 w2:=aG.trans bI (λj hj=>Qf hj);refine hK.out _ _ (λ_=>bH) ?_;clear hK K aG;try simp only[Qb,Z1,Z2,Z3,Z4,Z5,Z6]
 repeat (refine aj (v:=?_) rfl (by rfl) (by rfl) (λ_ _ _ h=>h) bH (λw' aB=>?_) ?_;rotate_left;(focus (have fE:=aB.cell x0 (by first | exact sq | exact oM);have fV:=aB.cell q4 (by first | exact sq | exact oM);clear aB;go_simp;try with_reducible rfl));simp only[Qb,Z1,Z2,Z3,Z4,Z5,Z6])
 have s4:=bH.cell q4 oM;have gY:=(HB.out.fresh gJ.out).more bH (by simpa using afw.1) oM (by simpa using (bM sJ.out.out rfl).ne HB.out.on.cO (by decide) |>.symm);have f4:=gY.free 4;refine aq rfl (by rfl) (by rfl) (λK hK=>?_);go_simp;refine hK.out _ _ (λh=>absurd h (Qi.1 (by kernel_rfl))) ?_;clear hK K;try simp only[Qb,Z1,Z2,Z3,Z4,Z5,Z6]
 refine ar ?_;obtain⟨n1,J8⟩:∃ n1,(s.rest.eraseIdx i).length=n1:=⟨_,rfl⟩;have HN1:=lh J8;rw[J8] at kr ⊢;have br:ai [sb] w2 (w2.setCell ⟨sb,4,none⟩ (.slice (some ⟨rb,0,none⟩) n1 rc)):=(ai.refl _ _).setCell (Qf (by simp)) _;have ug:∀ j∈[sb],bL w2 j 113:=λj hj=>by rw[Qa.1 hj];exact gY.kind
 have aaM:∀ j∈[rb],bL w1 j 162:=λj hj=>by rw[Qa.1 hj];exact (bM sJ.out.out rfl).aL gJ.out (by simp)
 have wK:=lh (gY.ahK (.slice (some ⟨rb,0,none⟩) n1 rc));have HF3:=lh (((rZ.out.fresh gJ.out).other bH (λj hj=>⟨_,aaM j hj,by decide,by decide,by decide⟩)).other br (λj hj=>⟨_,ug j hj,by decide,by decide,by decide⟩));have HN3:=lh (kr.others br (λj hj=>⟨_,ug j hj,by decide,by decide⟩));have aT:∀ {v:Value} {l:List Int},aw w w0.heap.size v l->aw (w2.setCell ⟨sb,4,none⟩ (.slice (some ⟨rb,0,none⟩) n1 rc)) w0.heap.size v l:=λ{v} {l} hr=>by
  have h1:=hr.aL gJ.out (by simp);have h2:=h1.aL bH (λb hb hm=>(h1.cO (by simpa using hb)).ne (aaM b hm) (by decide) rfl);exact h2.aL br (λb hb hm=>(h2.cO (by simpa using hb)).ne (ug b hm) (by decide) rfl)
 have HE3:=lh (aT MH.out);have HD3:=lh (aT Tm.out);have b8:=lh (aT Bp.out);have Zz:=lh (show ai own w1 (w2.setCell ⟨sb,4,none⟩ (.slice (some ⟨rb,0,none⟩) n1 rc)) from (bH.mono (λj hj=>Qf (by rw[Qa.1 hj];exact fM.out.2.2.2.2.1))).trans br (λj hj=>Qf (by rw[Qa.1 hj];exact fM.out.2.1)));clear br ug aaM aT kr bI bH gY s4 f4 J8 FN x0 q4 wi Ko Wt;generalize w2.setCell ⟨sb,4,none⟩ (.slice (some ⟨rb,0,none⟩) n1 rc)=w3 at *;obtain⟨x0,x1,x2,x3⟩:=wA.out _ Zz.out;have hP:=HP.out;have XX:=hP.a0;have haN:=hP.aN;have axY:=hP.el;have apC:=hP.LU;have awj:=hP.fl;clear hpr hps sq oM;go_wp2_with fail;refine (VQ sb N w0.heap.size ob a c.ak.length vE _ _ o2 p2 g s.on b.v c.ag c.ends w3 wK.out.A6 wK.out.q2 wK.out.on hP.ag apC HE3.out.ints HD3.out.ints (by omega) XX haN hP.part hP.aV).mono ?_;rw[hP.AJ];rintro e w4 ⟨v4,rfl,hr4,gX⟩;obtain⟨o4,p4,rfl⟩:=hr4.shape;have Ez:=lh hr4;have HT4:=lh (Zz.out.tr gX);have HB4:=lh (wK.out.fresh gX);have P0:=lh (HF3.out.fresh gX);have HN4:=lh (HN3.out.fresh gX);have Ev:=lh (HE3.out.aL gX (by simp));have HD4:=lh (HD3.out.aL gX (by simp));have eW:=lh (b8.out.aL gX (by simp));have av5:=lh gX.size;have hwl:=hP.wl;have apI:=lh Zz.out.size;clear hr4 gX wK HF3 HN3 HE3 HD3 b8 Zz x0 x1 x2 x3 hP;have HWD:=lh HP.out.wd;go_wp2_with fail;go_loopw [7,41] (λ_ k wr=>∃ j:Nat,j<=wy.length/\k=.int .i64 j/\cB w0 wr sb ob N g vE fv (.slice (some ⟨rb,0,none⟩) n1 rc) (eX g s.on (wy.take j))/\ai [ob] w4 wr) (λ_ k _=>wy.length - (intOf k).toNat);case atStart=>exact⟨0,QD _,rfl,HB4.out.same (λ_ _=>ML _ _ _ _),ai.refl _ _⟩
 case round =>
  obtain⟨j,hj,rfl,hbj,Pu⟩:=hrel;have Vh:=lh hbj;have HCJ:=lh Pu;have HTJ:=lh (HT4.out.trans Pu (λk hk=>Qf (by rw[Qa.1 hk];exact fM.out.2.2.1)));have OB:∀ k∈[ob],bL w4 k 4:=λk hk=>by rw[Qa.1 hk];exact HB4.out.on.cO
  have HRJ:=lh (Ez.out.aL Pu (λb hb hm=>(Ez.out.cO (by simpa using hb)).ne (OB b hm) (by decide) rfl));obtain⟨x0,x1,x2,x3⟩:=wA.out _ HTJ.out;clear hbj Pu;by_cases aW:j<wy.length
  ·obtain⟨rb2,Y',xK⟩:=HRJ.out.some (by omega)
   subst Y';have bX:=xK j aW;have lU:=HWD.out _ (aQ aW);have HT:=lh (M4 (g:=g) (on:=s.on) aW);obtain⟨n,v,hn,kr,hv,AL,hn4⟩:=Vh.out.A6.Gq lU.1 lU.2;rw[hn] at bX HT hv;rw[hv] at HT;have HV:=lh hv;have Pf:(v:Int)<(N:Int):=by omega
   have s0:=Vh.out.A6.c0;have s1:=Vh.out.A6.c1;have s2:=Vh.out.q2;obtain⟨eo,ag7,F4,-⟩:=Vh.out.A6.gr;simp only[QF.injEq,Array.mk.injEq,List.cons.injEq,true_and,and_true] at F4;have HGA:=lh Vh.out.A6.gr;rw[F4] at s1 HGA;have nC:(j:Int)<(wy.length:Int):=by omega
   clear xK hn hv lU OB x1 x2 x3;go_wp2_with fail;have aG:ai [] wr wr.drew:=(ai.refl [] wr).drew;refine al (ai [] wr) [0,1,2,3,4,5,6,7,8,10] (Way.line [0,1,2,3,4,5,6,7,8,9,10,11] .done) (by kernel_rfl) (by kernel_rfl) ?_;simp only[Way.line]
   repeat (refine aj (v:=?_) rfl (by rfl) (by rfl) (λ_ _ _ h=>h) aG (λw' aB=>?_) ?_;rotate_left;(focus (have fE:=aB.c x0;have fV:=aB.c s0;have kD:=aB.c s1;have tq:=aB.c s2;clear aB;go_simp;try with_reducible rfl));simp only[Qb,Z1,Z2,Z3,Z4,Z5,Z6])
   refine aq rfl (by rfl) (by rfl) (λK hK=>?_);go_simp;refine (dH _ g n _ kr (by have:=iL.out;omega) (HGA.out.fresh aG)).mono ?_;rw[HV.out];rintro e w9 ⟨rfl,hc9⟩;have bH:ai [] wr w9:=aG.tr hc9;refine hK.out _ _ (λ_=>bH) ?_;clear hK K hc9 aG;try simp only[Qb,Z1,Z2,Z3,Z4,Z5,Z6]
   repeat (refine aj (v:=?_) rfl (by rfl) (by rfl) (λ_ _ _ h=>h) bH (λw' aB=>?_) ?_;rotate_left;(focus (have fE:=aB.c x0;have fV:=aB.c s0;have kD:=aB.c s1;have tq:=aB.c s2;clear aB;go_simp;try with_reducible rfl));simp only[Qb,Z1,Z2,Z3,Z4,Z5,Z6])
   have VR:=Vh.out.fresh bH;have bc:=VR.on.cell AL;have bf:=VR.on.free v;refine aq rfl (by rfl) (by rfl) (λK hK=>?_);go_simp;refine hK.out _ _ (λh=>absurd h (Qi.1 (by kernel_rfl))) ?_;clear hK K;try simp only[Qb,Z1,Z2,Z3,Z4,Z5,Z6]
   refine ar ?_;have an0:=lh ((VR.agf v).same (on':=eX g s.on (wy.take (j+1))) (λi _=>(HT.out i).symm));have VJ:=lh ((HCJ.out.tr bH).trans ((ai.refl [ob] w9).setCell (p:=⟨ob,v,none⟩) (Qf (by simp)) (.bool true)) (λj hj=>Qf hj));clear VR bc bf bH x0 s0 s1 s2 bX;generalize w9.setCell ⟨ob,v,none⟩ (.bool true)=Uz at *;go_wp2;go_roundw;case rel=>exact⟨j+1,by omega,by go_num,an0.out,VJ.out⟩
   case measure=>simp[intOf];omega
  have e:j=wy.length:=by omega
  subst e;rw[List.take_length] at Vh;have Pu:=HCJ.out;have HF5:=lh (P0.out.aL Pu (λb hb hm=>(bM P0.out.out hb).ne (OB b hm) (by decide) rfl) (λk b hk hb hm=>YV.out.o k hk (by rw[hb,Qa.1 hm])));have HN5:=lh (HN4.out.others Pu (λj hj=>⟨_,OB j hj,by decide,by decide⟩));have aT:∀ {v:Value} {l:List Int},aw w4 w0.heap.size v l->aw wr w0.heap.size v l:=λ{v} {l} hr=>hr.aL Pu (λb hb hm=>(hr.cO (by simpa using hb)).ne (OB b hm) (by decide) rfl);have HE5:=lh (aT Ev.out);have HD5:=lh (aT HD4.out);have fG:=lh (aT eW.out);have ahO:=lh Pu.size;have Bb:=lh Vh.out;clear Pu OB aT P0 HN4 Ev HD4 eW HB4 HT4 Ez Vh HCJ hj aW;obtain⟨eb,ee,RD⟩:=HD5.out.some (by omega);subst ee;have d0:=RD 0 (by omega);rw[XX] at d0;have Zj:0<wy.length:=List.length_pos_iff.2 HP.out.wne;obtain⟨wb,ew,Ih⟩:=HRJ.out.some Zj;subst ew;have amO:=lh (show pb<=wb from Qc (Qc Wn apI.out) (HRJ.out.low wb (by simp[Qd])).1);have dl:=Ih (wy.length - 1) (by omega);obtain⟨l1,l2⟩:=Nu HP.out.wne;have hld:=HWD.out _ l2;have hlz:=HP.out.z0;rw[l1] at dl;obtain⟨m,hm⟩:∃ m:Nat,wy.getLastD 0=m:=⟨(wy.getLastD 0).toNat,by omega⟩;rw[hm] at dl hld hlz;have mD:m / 2<g.e.length:=by omega
  have Io:=ql m (by have:=iL.out;omega);have Hq:g.tail (aH (m:Int))=(z:Int):=by rw[az];exact hlz
  have zu:=bJ (m:Int);obtain⟨tm,Aw⟩:∃ tm:Nat,aH (m:Int)=tm:=⟨(aH (m:Int)).toNat,by unfold aH;split <;> omega⟩;rw[Aw] at Io Hq zu;have ahB:tm / 2<g.e.length:=by omega
  have HLZ:=lh Hq;clear Aw Hq zu;have s0:=Bb.out.A6.c0;have s1:=Bb.out.A6.c1;obtain⟨eo,ag7,F4,-⟩:=Bb.out.A6.gr;simp only[QF.injEq,Array.mk.injEq,List.cons.injEq,true_and,and_true] at F4;subst F4;have HGA:=lh Bb.out.A6.gr;have gu:(wy.length:Int)<=1024:=by omega
  have aoQ:0<(wy.length:Int):=by omega
  have amD:0<c.ends.length:=by omega
  have EC:1<=(wy.length:Int):=by omega
  have tX:(wy.length:Int) - 1<(wy.length:Int):=by omega
  have wq:IntKind.i64.wrap ((wy.length:Int) - 1)=(wy.length:Int) - 1:=IntWalk.i64_in _ (by omega);clear RD Ih l1 l2 hld hlz hm;go_wp2_with fail;have aG:ai [] wr wr.drew:=(ai.refl [] wr).drew;refine al (ai [] wr) [0,1,2,3,4,5,6,7,8,9,10,11,12,13,14,16,17] (Way.line [0,1,2,3,4,5,6,7,8,9,10,11,12,13,14,15,16,17] .done) (by kernel_rfl) (by kernel_rfl) ?_;simp only[Way.line]
  repeat (refine aj (v:=?_) rfl (by rfl) (by rfl) (λ_ _ _ h=>h) aG (λw' aB=>?_) ?_;rotate_left;(focus (have fE:=aB.c x0;have fV:=aB.c x2;have kD:=aB.c s0;have tq:=aB.c s1;have MD:=aB.c d0;have rd5:=aB.c dl;clear aB;go_simp;try with_reducible rfl));simp only[Qb,Z1,Z2,Z3,Z4,Z5,Z6])
  refine aq rfl (by rfl) (by rfl) (λK hK=>?_);go_simp;refine (dH _ g tm _ ahB (by have:=iL.out;omega) (HGA.out.fresh aG)).mono ?_;rw[HLZ.out];rintro e w6 ⟨rfl,hc6⟩;have bH:ai [] wr w6:=aG.tr hc6;refine hK.out _ _ (λ_=>bH) ?_;clear hK K hc6 aG;try simp only[Qb,Z1,Z2,Z3,Z4,Z5,Z6]
  repeat (refine aj (v:=?_) rfl (by rfl) (by rfl) (λ_ _ _ h=>h) bH (λw' aB=>?_) ?_;rotate_left;(focus (skip;clear aB;go_simp;try with_reducible rfl));simp only[Qb,Z1,Z2,Z3,Z4,Z5,Z6])
  refine ar ?_;have HB6:=lh (Bb.out.fresh bH);have Yl:=lh (HF5.out.fresh bH);have HN6:=lh (HN5.out.fresh bH);have HE6:=lh (HE5.out.aL bH (by simp));have fC:=lh (fG.out.aL bH (by simp));have Va:=lh (HRJ.out.aL bH (by simp));have HT6:=lh (HTJ.out.tr bH);have abP:=lh (Qc ahO.out bH.size);clear bH Bb HF5 HN5 HE5 HD5 fG HRJ HTJ ahO s0 s1 d0 dl x0 x1 x2 x3 HGA Io ahB HLZ aoQ amD EC tX wq mD;obtain⟨x0,x1,x2,x3⟩:=wA.out _ HT6.out;obtain⟨cb,ce,xQ⟩:=fC.out.some (by omega);subst ce;have d0:=xQ 0 (by omega);rw[HP.out.f0] at d0;obtain⟨fb,fc,hfv⟩:=dj Yl.out.out (by have:=HP.out.fF;omega);subst hfv;have hfF:=HP.out.fF;have De:=Yl.out.row f hfF;rw[HP.out.Yd] at De;have TX:=Yl.out.cell (k:=2*f) (by rw[Yl.out.len];omega);obtain⟨u0,hu0⟩:∃ u,xs.getD (2*f) undef=u:=⟨_,rfl⟩;rw[hu0] at De TX;obtain⟨o5,p5,rfl⟩:=De.shape;have Uh:=lh De;have q3:=HB6.out.q3;have av9:0<c.ak.length:=by omega
  have hfi:(f:Int)<(s.ak.length:Int):=by omega
  rw[Qs 2 f] at TX;clear xQ De;go_wp2_with fail;have hol:0<old.length:=by
   obtain⟨x,hx,-⟩:=HP.out.oa;exact List.length_pos_of_mem hx
  obtain⟨db,e5,-⟩:=Uh.out.some hol;subst e5;obtain⟨-,aqv⟩:=qt Uh.out;have awo:=HP.out.ol;have ah4:old.length<1000000000:=by omega
  obtain⟨J',Xg⟩:=Hb (P:=λd=>decide (g.tail d=(a:Int))) (l:=old) (by obtain⟨x,hx,e⟩:=HP.out.oa;exact⟨x,hx,decide_eq_true e⟩);obtain⟨k1,hk1⟩:∃ k1,old.findIdx (λd=>decide (g.tail d=(a:Int)))=k1:=⟨_,rfl⟩;have HK1:=lh hk1;rw[hk1] at J' Xg;have Ke:=lh J';have Ra:=(ai.refl [] w6).alloc (.cells #[.int .i64 (a:Nat)] 3);have dN:=heap_alloc_new w6 (.cells #[.int .i64 (a:Nat)] 3);have hax:=(cell_of_row _ _ 0 _ _ _ dN).trans (show _=some (QG .i64 (a:Nat)) from rfl);have aiK:a<1000000:=by have:=iL.out;omega
  have afe:z<1000000:=by have:=iL.out;have:=HP.out.zN;omega
  clear J' hk1 dN x1 x2 x3 d0 TX q3;refine (Fe pb a aiK w6).mono ?_;rintro e w7 ⟨rfl,rfl⟩;go_wp2_with fail;refine (Bt a pb w6.heap.size sb N _ g _ old _ (HB6.out.fresh Ra).A6 aiK (Ra.bO x0) hax HP.out.od ah4 (Uh.out.ints.fresh Ra)).mono ?_;rw[Ke.out];rintro e w8 ⟨rfl,su⟩;have hs8:ai [] w6 w8:=Ra.tr su;have Vf:=lh hs8;have Rn:=lh (Uh.out.aL hs8 (by simp));have abF:k1<=old.length:=by omega
  have ao9:k1<=p5:=by omega
  have akP:¬ p5=k1:=by omega
  have akT:(k1:Int)<=(old.length:Int):=by omega
  have aog:(k1:Int)<=(p5:Int):=by omega
  clear Ra hax su hs8 x0;go_wp2_with fail;have aG:ai [] w8 w8.drew:=(ai.refl [] w8).drew;refine al (ai [] w8) [0,1,2,3,4,5,8] (Way.line [0,1,2,3,4,5,6,7,8] .done) (by kernel_rfl) (by kernel_rfl) ?_;simp only[Way.line]
  repeat (refine aj (v:=?_) rfl (by rfl) (by rfl) (λ_ _ _ h=>h) aG (λw' aB=>?_) ?_;rotate_left;(focus (skip;clear aB;go_simp;try with_reducible rfl));simp only[Qb,Z1,Z2,Z3,Z4,Z5,Z6])
  refine aq rfl (by rfl) (by rfl) (λK hK=>?_);go_simp;refine hK.out _ _ (λ_=>aG.alloc (.cells #[.slice (some ⟨db,k1,none⟩) (old.length - k1) (p5 - k1),.slice (some ⟨db,0,none⟩) k1 p5] 25)) ?_;clear hK K;try simp only[Qb,Z1,Z2,Z3,Z4,Z5,Z6]
  refine aq rfl (by rfl) (by rfl) (λK hK=>?_);go_simp;refine (pE (.slice (some ⟨db,k1,none⟩) (old.length - k1) (p5 - k1)) (.slice (some ⟨db,0,none⟩) k1 p5) (old.drop k1) (old.take k1) w8.drew ((Bv Rn.out abF).fresh aG) ((B0 Rn.out abF).fresh aG) (by rw[Qg,Qo];omega)).mono ?_;rintro e w9 ⟨v9,rfl,hr9,hc9⟩;have bH:ai [] w8 w9:=aG.tr hc9;refine hK.out _ _ (λ_=>bH) ?_;clear hK K;try simp only[Qb,Z1,Z2,Z3,Z4,Z5,Z6]
  repeat (refine aj (v:=?_) rfl (by rfl) (by rfl) (λ_ _ _ h=>h) bH (λw' aB=>?_) ?_;rotate_left;(focus (skip;clear aB;go_simp;try with_reducible rfl));simp only[Qb,Z1,Z2,Z3,Z4,Z5,Z6])
  refine ar ?_;obtain⟨o,ho⟩:∃ o,old.drop k1++old.take k1=o:=⟨_,rfl⟩;have HO:=lh ho;rw[ho] at hr9;have hoo:∀ d∈o,d∈old:=λd hd=>by
   rw[<-ho] at hd;rcases Qh.1 hd with r | r
   ·exact Qq r
   exact Qr r
  have ae7:∀ d∈old,d∈o:=λd hd=>by
   rw[<-ho];rw[<-List.take_append_drop k1 old] at hd;exact (Qh.1 hd).elim (λr=>List.mem_append_right _ r) (λr=>List.mem_append_left _ r)
  have PA:o.length=old.length:=by rw[<-ho,Qe,Qg,Qo];omega
  have HOD:=lh (show ∀ d∈o,0<=d/\d / 2<g.e.length from λd hd=>HP.out.od d (hoo d hd));have Ur:∃ x∈o,decide (g.tail x=(z:Int))=true:=by
   obtain⟨x,hx,e⟩:=HP.out.oz;exact⟨x,ae7 x hx,decide_eq_true e⟩
  obtain⟨J',Xg⟩:=Hb Ur;obtain⟨j1,hj1⟩:∃ j1,o.findIdx (λd=>decide (g.tail d=(z:Int)))=j1:=⟨_,rfl⟩;have HJ1:=lh hj1;rw[hj1] at J' Xg;have HFJ:=lh J';have Ff:=Vf.out.tr bH;have HT9:=lh (HT6.out.tr Ff);have HB9:=lh (HB6.out.fresh Ff);have HF9:=lh (Yl.out.fresh Ff);have HN9:=lh (HN6.out.fresh Ff);have HE9:=lh (HE6.out.aL Ff (by simp));have HW9:=lh (Va.out.aL Ff (by simp));have ahk:=lh (Qc abP.out Ff.size);obtain⟨o9,p9,rfl⟩:=hr9.shape;obtain⟨gb,e9,-⟩:=hr9.some (by omega);subst e9;obtain⟨-,aq0⟩:=qt hr9;have ZZ:j1<=o.length:=by omega
  have apR:j1<=p9:=by omega
  have amy:¬ p9=j1:=by omega
  have amU:(j1:Int)<=(o.length:Int):=by omega
  have apx:(j1:Int)<=(p9:Int):=by omega
  have ack:(o.take j1).length+(twins wy).length<1000000:=by rw[Qo,qj];omega
  have Vq:wy.length+(o.drop j1).length<1000000:=by rw[Qg];omega
  have Nn:=lh (hr9.base (B:=w4.heap.size) (Qc abP.out Vf.out.size));have awe:o.length<=2048:=by omega
  have aiV:o.length<1000000000:=by omega
  clear PA ho hoo ae7 Ur J' hj1 hr9 hc9 aG bH Ff HB6 Yl HN6 HE6 Va abP HT6 Vf Uh Rn Ke abF ao9 akP akT aog Xg;obtain⟨x0,x1,x2,x3⟩:=wA.out _ HT9.out;go_wp2_with fail;have Ra:=(ai.refl [] w9).alloc (.cells #[.int .i64 (z:Nat)] 3);have dN:=heap_alloc_new w9 (.cells #[.int .i64 (z:Nat)] 3);have hax:=(cell_of_row _ _ 0 _ _ _ dN).trans (show _=some (QG .i64 (z:Nat)) from rfl);clear dN;refine (Fe pb z afe w9).mono ?_;rintro e Uz ⟨rfl,rfl⟩;go_wp2_with fail;refine (Bt z pb w9.heap.size sb N _ g _ o _ (HB9.out.fresh Ra).A6 afe (Ra.bO x0) hax HOD.out aiV (Nn.out.ints.fresh Ra)).mono ?_;rw[HFJ.out];rintro e Mr ⟨rfl,hc11⟩;have hS:=Ra.tr hc11;have VZ:=lh (HT9.out.tr hS);have aaX:=lh (HB9.out.fresh hS);have VO:=lh (HF9.out.fresh hS);have aiL:=lh (HN9.out.fresh hS);have aen:=lh (HE9.out.aL hS (by simp));have ahy:=lh (HW9.out.aL hS (by simp));have afB:=lh (Nn.out.aL hS (by simp));have Yf:=lh (Qc ahk.out hS.size);clear Ra hax hc11 hS x0 x1 x2 x3 HT9 HB9 HF9 HN9 HE9 HW9 Nn ahk HFJ;obtain⟨x0,x1,x2,x3⟩:=wA.out _ VZ.out;have q3:=aaX.out.q3;obtain⟨F0,hF0⟩:∃ F0,s.ak.length=F0:=⟨_,rfl⟩;have Vl:=lh hF0;have hFl:=HP.out.Fl;have hkb:=bM VO.out.out rfl;obtain⟨cs,rr,ja⟩:=hkb;have amr:rr=(0,0)/\2*F0<=cs.size:=by
   rcases VO.out.out.2 with ⟨q,-⟩ | ⟨g',c',cur,q,-,hh,h3,-,h5,-⟩
   ·cases q
   cases q;rw[ja] at hh;simp only[QC.injEq,Obj.cells.injEq,true_and] at hh;obtain⟨rfl,rfl⟩:=hh;exact⟨rfl,by omega⟩
  obtain⟨rfl,anh⟩:=amr;have HCS:=lh ja;rw[hF0] at hfF hFl q3 hfi;have LY:=lh (heap_alloc_new Mr (.cells #[.int .i64 (f:Nat),.int .i64 (F0:Nat)] 3));have E5:=(ai.refl [] Mr).alloc (.cells #[.int .i64 (f:Nat),.int .i64 (F0:Nat)] 3);have yt:=xP Mr (x:=(f:Nat)) (y:=(F0:Nat)) (bF.mk (by omega) (by omega)) (bF.mk (by omega) (by omega));have ZG:=lh (show ∀ b,pb<=b->b≠ob/\∀ l,l<AH.length->(AH.getD l undef).ownBlock≠some b from λb hb=>by
   refine⟨λe=>?_,λl hl e=>?_⟩
   ·have:=fM.out.1 ob fM.out.2.2.1
    have:=uF.out;omega
   have:=fM.out.1 b (af3.out l b hl e);have:=uF.out;omega)
  have aaw:=aaX.out.fresh E5;have Ru:=lh (VO.out.fresh E5);have Wh:=lh (aiL.out.fresh E5);have afq:=lh (aen.out.aL E5 (by simp));have abU:=lh (ahy.out.aL E5 (by simp));have aaT:=lh (afB.out.aL E5 (by simp));have Vx:=lh (VZ.out.tr E5);have XY:=lh (Qc Yf.out E5.size);have X6:=lh (E5.hp ja);have Ts:=lh aaw;have agE:=aaw.q3;have Tp:=lh yt;have af9:=(show Mr.heap.size<(Mr.alloc (.cells #[.int .i64 (f:Nat),.int .i64 (F0:Nat)] 3)).heap.size by simp);have afY:=lh VZ.out.size;clear x1 x2 x3 ja aaX VO aiL aen ahy afB VZ Yf aaw yt HCS;go_wp2_with fail;clear x0 q3;obtain⟨x0,-,-,-⟩:=wA.out _ Vx.out;have q3:=agE;rw[hF0] at q3;obtain⟨bb,Ib⟩:∃ bb,Mr.heap.size=bb:=⟨_,rfl⟩;rw[Ib] at Tp LY af9 ⊢;have al6:=lh (show pb<=bb by rw[<-Ib];exact Qc Wn afY.out);generalize Mr.alloc (.cells #[.int .i64 (f:Nat),.int .i64 (F0:Nat)] 3)=OD at *;clear E5 Ib agE;have Zv:=lh (show ∀ d∈wy,0<=d/\d<4294967296 from λd hd=>by
   have h1:=HWD.out d hd;have h2:=iL.out;omega)
  have aan:=lh (show ∀ d∈o.take j1++twins wy,0<=d/\d / 2<g.e.length from λd hd=>by
   rcases Qh.1 hd with r | r
   ·exact HOD.out d (Qr r)
   have h1:=HWD.out _ (ff.1 r);have h2:=bJ d;omega)
  have acp:=lh (show ∀ d∈wy++o.drop j1,0<=d/\d / 2<g.e.length from λd hd=>by
   rcases Qh.1 hd with r | r
   ·exact HWD.out d r
   exact HOD.out d (Qq r))
  have ZF:(o.take j1++twins wy).length<=1000000:=by rw[Qe];omega
  have aa9:(wy++o.drop j1).length<=1000000:=by rw[Qe];omega
  have agA:wy.length<=1000000:=by omega
  obtain⟨L1,hL1⟩:∃ L1,o.take j1++twins wy=L1:=⟨_,rfl⟩;have It:=lh hL1;obtain⟨L2,KR⟩:∃ L2,wy++o.drop j1=L2:=⟨_,rfl⟩;have UX:=lh KR;obtain⟨tw,xq⟩:∃ tw,twins wy=tw:=⟨_,rfl⟩;have HTW:=lh xq;rw[hL1] at aan ZF;rw[KR] at acp aa9;rw[xq] at ack;clear hL1 KR xq;have qL:f*2+1<cs.size:=by omega
  have aG:ai [] OD OD.drew:=(ai.refl [] OD).drew;refine al (ai [] OD) [0,1,2,3,4,5,6,7,8,9,14] (Way.line [0,1,2,3,4,5,6,7,8,9,10,11,12,13,14,15] .done) (by kernel_rfl) (by kernel_rfl) ?_;simp only[Way.line]
  repeat (refine aj (v:=?_) rfl (by rfl) (by rfl) (λ_ _ _ h=>h) aG (λw' aB=>?_) ?_;rotate_left;(focus (have fE:=aB.c x0;have fV:=aB.c q3;clear aB;go_simp;try with_reducible rfl));simp only[Qb,Z1,Z2,Z3,Z4,Z5,Z6])
  refine aq rfl (by rfl) (by rfl) (λK hK=>?_);go_simp;refine (BX _ wy _ agA Zv.out (abU.out.ints.fresh aG)).mono ?_;rw[HTW.out];rintro e w13 ⟨v13,rfl,hr13,hc13⟩;obtain⟨o13,p13,rfl⟩:=hr13.shape;have bH:ai [] OD w13:=aG.tr hc13;refine hK.out _ _ (λ_=>bH) ?_;clear hK K aG hc13;try simp only[Qb,Z1,Z2,Z3,Z4,Z5,Z6]
  repeat (refine aj (v:=?_) rfl (by rfl) (by rfl) (λ_ _ _ h=>h) bH (λw' aB=>?_) ?_;rotate_left;(focus (have fE:=aB.c x0;have fV:=aB.c q3;clear aB;go_simp;try with_reducible rfl));simp only[Qb,Z1,Z2,Z3,Z4,Z5,Z6])
  refine aq rfl (by rfl) (by rfl) (λK hK=>?_);go_simp;refine hK.out _ _ (λ_=>bH.alloc (.cells #[.slice (some ⟨gb,0,none⟩) j1 p9,.slice o13 tw.length p13] 25)) ?_;clear hK K;try simp only[Qb,Z1,Z2,Z3,Z4,Z5,Z6]
  refine aq rfl (by rfl) (by rfl) (λK hK=>?_);go_simp;refine (pE (.slice (some ⟨gb,0,none⟩) j1 p9) (.slice o13 tw.length p13) (o.take j1) tw w13 ((B0 aaT.out ZZ).fresh bH) hr13.ints ack).mono ?_;have alr:=lh (show o.take j1++tw=L1 by rw[<-HTW.out];exact It.out);rw[alr.out];rintro e TW ⟨v14,rfl,hr14,hc14⟩;obtain⟨o14,p14,rfl⟩:=hr14.shape;have iN:ai [] OD TW:=bH.tr hc14;refine hK.out _ _ (λ_=>iN) ?_;clear hK K hc14;try simp only[Qb,Z1,Z2,Z3,Z4,Z5,Z6]
  refine aq rfl (by rfl) (by rfl) (λK hK=>?_);go_simp;refine (og sb N _ _ g L1 TW (Ts.out.fresh iN).A6 ZF aan.out hr14.ints).mono ?_;rintro e Wv ⟨iz,rfl,hbb1,hc15⟩;have nQ:ai [] OD Wv:=iN.tr hc15;refine hK.out _ _ (λ_=>nQ) ?_;clear hK K;try simp only[Qb,Z1,Z2,Z3,Z4,Z5,Z6]
  repeat (refine aj (v:=?_) rfl (by rfl) (by rfl) (λ_ _ _ h=>h) nQ (λw' aB=>?_) ?_;rotate_left;(focus (have fE:=aB.c x0;have fV:=aB.c q3;clear aB;go_simp;try with_reducible rfl));simp only[Qb,Z1,Z2,Z3,Z4,Z5,Z6])
  refine aq rfl (by rfl) (by rfl) (λK hK=>?_);simp only[Qm,Qj,Qk];refine MP (.tmp 125) (.tmp 124) rfl rfl rfl (nQ.hp X6.out) qL ?_;refine hK.out _ _ (λh=>absurd h (Qi.1 (by kernel_rfl))) ?_;clear hK K;try simp only[Qb]
  refine ar ?_;have ak5:pb<=OD.heap.size:=Qc Wn Vx.out.size;have aiT:=(hr14.aL hc15 (by simp)).base (B:=w0.heap.size) (Qc (Ts.out.aL.size) bH.size);have Y8:=hbb1.base (B:=w0.heap.size) (Qc (Ts.out.aL.size) iN.size);have acm:=(Ru.out.fresh nQ).put (v:=.slice o14 L1.length p14) (hb:=iz) HP.out.fF aiT Y8;have rR:∀ j∈[fb],bL Wv j 158:=λj hj=>by rw[Qa.1 hj];exact bM (Ru.out.fresh nQ).out rfl
  have Kl:oV ob ((xs.set (2*f) (.slice o14 L1.length p14)).set (2*f+1) (.slice (some ⟨iz,0,none⟩) N N)) AH:=by
   have AI:=Ru.out.len;have auv:=HP.out.fF;refine (YV.out.put (by omega) λb hb=>ZG.out b ?_).put (by rw[Qz];omega) λb hb=>ZG.out b ?_
   ·have h1:=(hr14.low b (by rw[hb];simp)).1
    have h2:=bH.size;omega
   have:iz=b:=by simpa[Qd] using hb
   have h1:=hbb1.lt.1;have h2:=iN.size;omega
  rw[Qs 2 f] at acm Kl;have br:ai [fb] Wv ((Wv.setCell ⟨fb,f*2,none⟩ (.slice o14 L1.length p14)).setCell ⟨fb,f*2+1,none⟩ (.slice (some ⟨iz,0,none⟩) N N)):=((ai.refl _ _).setCell (Qf (by simp)) _).setCell (Qf (by simp)) _;have V9:=Ts.out.fresh nQ;have agC:sb ∉ [fb]:=λq=>V9.kind.ne (rR sb q) (by decide) rfl;have aih:ob ∉ [fb]:=λq=>V9.on.cO.ne (rR ob q) (by decide) rfl;have V3:=(Ru.out.out.lt fb rfl);have Fz:=lh (V9.more br (by simpa using V3.1) agC aih);have ait:=lh ((Wh.out.fresh nQ).others br (λj hj=>⟨_,rR j hj,by decide,by decide⟩));have aT:∀ {B:Nat} {v:Value} {l:List Int},aw OD B v l->aw ((Wv.setCell ⟨fb,f*2,none⟩ (.slice o14 L1.length p14)).setCell ⟨fb,f*2+1,none⟩ (.slice (some ⟨iz,0,none⟩) N N)) B v l:=λ{B} {v} {l} hr=>by
   have h1:=hr.aL nQ (by simp);exact h1.aL br (λb hb hm=>(h1.cO (by simpa using hb)).ne (rR b hm) (by decide) rfl)
  have afN:=lh (aT afq.out);have abK:=lh (aT abU.out);have ae1:=lh (aT aaT.out);have aap:=lh ((Vx.out.tr nQ).trans br (λj hj=>Qf (by rw[Qa.1 hj];exact fM.out.2.2.2.1 fb rfl)));have Ed:=lh acm;have KL:=lh Kl;have afE:bb ∉ [fb]:=λq=>by
   have h1:bL Wv bb 3:=by
    have h2:bL OD bb 3:=⟨_,_,LY.out⟩;exact h2.aL nQ (by simp)
   exact h1.ne (rR bb q) (by decide) rfl
  have RN:=lh (br.heap (nQ.hp LY.out) afE);have atO:=lh (Qc XY.out (Qc nQ.size br.size));have aie:=Qc ak5 (Qc nQ.size br.size);clear br aT V9 rR acm Kl aiT Y8 hr14 hbb1 hr13 bH iN nQ hc15 agC aih afE Ts Wh afq abU aaT Vx Ru LY XY X6 x0 q3 ack ZF aan qL anh af9;generalize (Wv.setCell ⟨fb,f*2,none⟩ (.slice o14 L1.length p14)).setCell ⟨fb,f*2+1,none⟩ (.slice (some ⟨iz,0,none⟩) N N)=xF at *;obtain⟨xs1,aiQ⟩:∃ xs1,((xs.set (f*2) (.slice o14 L1.length p14)).set (f*2+1) (.slice (some ⟨iz,0,none⟩) N N))=xs1:=⟨_,rfl⟩;rw[aiQ] at Ed KL;clear aiQ;obtain⟨F1,CU⟩:∃ F1,s.ak.set f L1=F1:=⟨_,rfl⟩;have Pp:=lh CU;have acM:F1.length=F0:=by rw[<-CU,Qz];exact Vl.out
  rw[CU] at Ed;rw[Vl.out] at Ed Fz;clear CU;obtain⟨x0,-,-,-⟩:=wA.out _ aap.out;have q3:=Fz.out.q3;have rR:bL xF fb 158:=bM Ed.out.out rfl;have Tt:pb ∉ [fb]:=by
   rw[Qa];intro e;have h1:=(fM.out.1 fb (fM.out.2.2.2.1 fb rfl)).2;have h2:=uF.out;omega
  have KW:sb ∉ [fb]:=λq=>Fz.out.kind.ne (by rw[Qa.1 q];exact rR) (by decide) rfl;have af8:ob ∉ [fb]:=λq=>Fz.out.on.cO.ne (by rw[Qa.1 q];exact rR) (by decide) rfl;have V3:=(Ed.out.out.lt fb rfl).1;have aoR:F0<68719476736:=by omega
  have HB0:=lh (show w0.heap.size<=xF.heap.size from Fz.out.aL.size);have J3:=Ed.out.out;rw[acM] at J3;have RS:=lh J3;have acu:=lh acM;clear J3 rR acM;go_wp2_with fail;have aG:ai [fb] xF xF.drew:=(ai.refl [fb] xF).drew;refine al (ai [fb] xF) [0,1,2,3,4,5,6,7,8,9,15,16] (Way.line [0,1,2,3,4,5,6,7,8,9,10,11,12,13,14,15,16,17] .done) (by kernel_rfl) (by kernel_rfl) ?_;simp only[Way.line];have DD:ai [] xF xF.drew:=(ai.refl [] xF).drew
  repeat (refine aj (v:=?_) rfl (by rfl) (by rfl) (λ_ _ _ h=>h) aG (λw' aB=>?_) ?_;rotate_left;(focus (have fE:=aB.cell x0 (by first | exact Tt | exact KW);have fV:=aB.cell q3 (by first | exact Tt | exact KW);clear aB;go_simp;try with_reducible rfl));simp only[Qb,Z1,Z2,Z3,Z4,Z5,Z6])
  refine aq rfl (by rfl) (by rfl) (λK hK=>?_);go_simp;refine hK.out _ _ (λ_=>aG.alloc (.cells #[.slice (some ⟨wb,0,none⟩) wy.length p4,.slice (some ⟨gb,j1,none⟩) (o.length - j1) (p9 - j1)] 25)) ?_;clear hK K;try simp only[Qb,Z1,Z2,Z3,Z4,Z5,Z6]
  refine aq rfl (by rfl) (by rfl) (λK hK=>?_);go_simp;refine (pE (.slice (some ⟨wb,0,none⟩) wy.length p4) (.slice (some ⟨gb,j1,none⟩) (o.length - j1) (p9 - j1)) wy (o.drop j1) xF.drew (abK.out.ints.fresh DD) ((Bv ae1.out ZZ).fresh DD) Vq).mono ?_;rw[UX.out];rintro e w17 ⟨v17,rfl,hr17,hc17⟩;obtain⟨o17,p17,rfl⟩:=hr17.shape;have bH:ai [fb] xF w17:=aG.tr hc17;have uW:ai [] xF w17:=DD.tr hc17;refine hK.out _ _ (λ_=>bH) ?_;clear hK K hc17;try simp only[Qb,Z1,Z2,Z3,Z4,Z5,Z6]
  refine aq rfl (by rfl) (by rfl) (λK hK=>?_);go_simp;refine (og sb N _ _ g L2 w17 (Fz.out.fresh uW).A6 aa9 acp.out hr17.ints).mono ?_;rintro e U8 ⟨gY,rfl,hbb2,hc18⟩;have iN:ai [fb] xF U8:=bH.tr hc18;have Jv:ai [] xF U8:=uW.tr hc18;refine hK.out _ _ (λ_=>iN) ?_;clear hK K;try simp only[Qb,Z1,Z2,Z3,Z4,Z5,Z6]
  refine aq rfl (by rfl) (by rfl) (λK hK=>?_);go_simp;refine hK.out _ _ (λ_=>iN.alloc (.cells #[.slice o17 L2.length p17,.slice (some ⟨gY,0,none⟩) N N] 158)) ?_;clear hK K;try simp only[Qb,Z1,Z2,Z3,Z4,Z5,Z6]
  obtain⟨Pm,fc2,XZ,aja,agL,aax,apS⟩:=qy IA (w:=U8.alloc (.cells #[.slice o17 L2.length p17,.slice (some ⟨gY,0,none⟩) N N] 158)) (bG RS.out Jv (by simp)) (Qc HB0.out Jv.size) (cs:=#[.slice o17 L2.length p17,.slice (some ⟨gY,0,none⟩) N N]) rfl (by intro u hu;simp at hu;rcases hu with rfl | rfl <;> rfl) aoR (Qf rfl) 110;have ahc:=lh aja;have nQ:ai [fb] xF XZ:=iN.trans aax (λj hj=>Qf (by simpa[Qd] using hj));clear aja;refine aq rfl (by rfl) (by rfl) (λK hK=>?_);simp only[Qm,Qj,Qk];refine mZ (.tmp 130) (.tmp 139) 110 rfl rfl rfl ahc.out ?_;refine hK.out _ _ (λ_=>nQ) ?_;clear hK K;try simp only[Qb,Qn,Qu,Qv]
  repeat (refine aj (v:=?_) rfl (by rfl) (by rfl) (λ_ _ _ h=>h) nQ (λw' aB=>?_) ?_;rotate_left;(focus (have fE:=aB.cell x0 (by first | exact Tt | exact KW);have fV:=aB.cell q3 (by first | exact Tt | exact KW);clear aB;go_simp;try with_reducible rfl));simp only[Qb,Z1,Z2,Z3,Z4,Z5,Z6])
  have XV:=Fz.out.more nQ (by simpa using V3) KW af8;have s3:=nQ.cell q3 KW;have f3:=XV.free 3;refine aq rfl (by rfl) (by rfl) (λK hK=>?_);go_simp;refine hK.out _ _ (λh=>absurd h (Qi.1 (by kernel_rfl))) ?_;clear hK K;try simp only[Qb,Z1,Z2,Z3,Z4,Z5,Z6]
  refine ar ?_;have ag3:=(hr17.aL hc18 (by simp)).base (B:=w0.heap.size) HB0.out;have YG:=hbb2.base (B:=w0.heap.size) (Qc HB0.out uW.size);have aaW:=cW.add (w':=XZ) (fb:=Pm) (c:=fc2) (Ed.out.fresh Jv) ag3 YG (by rw[acu.out];simpa using agL) aax;rw[acu.out] at aaW;have ug:∀ j∈[sb],bL XZ j 113:=λj hj=>by rw[Qa.1 hj];exact XV.kind
  have rR:∀ j∈[fb],bL xF j 158:=λj hj=>by rw[Qa.1 hj];exact bM Ed.out.out rfl
  have br:ai [sb] XZ (XZ.setCell ⟨sb,3,none⟩ (.slice (some ⟨Pm,0,none⟩) (F0+1) fc2)):=(ai.refl _ _).setCell (Qf (by simp)) _;have Nc:=lh (XV.aom (.slice (some ⟨Pm,0,none⟩) (F0+1) fc2));have K0:=lh (aaW.other br (λj hj=>⟨_,ug j hj,by decide,by decide,by decide⟩));have K5:=lh ((ait.out.others nQ (λj hj=>⟨_,rR j hj,by decide,by decide⟩)).others br (λj hj=>⟨_,ug j hj,by decide,by decide⟩));have aT:∀ {B:Nat} {v:Value} {l:List Int},aw xF B v l->aw (XZ.setCell ⟨sb,3,none⟩ (.slice (some ⟨Pm,0,none⟩) (F0+1) fc2)) B v l:=λ{B} {v} {l} hr=>by
   have h1:=hr.aL nQ (λb hb hm=>(hr.cO (by simpa using hb)).ne (rR b hm) (by decide) rfl);exact h1.aL br (λb hb hm=>(h1.cO (by simpa using hb)).ne (ug b hm) (by decide) rfl)
  have agY:=lh (aT afN.out);have ag4:=lh (aT abK.out);have jQ:bL xF bb 3:=⟨_,_,RN.out⟩;have P9:=nQ.heap RN.out (λq=>jQ.ne (rR bb q) (by decide) rfl);have Zf:bL XZ bb 3:=⟨_,_,P9⟩;have Rt:=lh (br.heap P9 (λq=>Zf.ne (ug bb q) (by decide) rfl));have aeq:=lh ((aap.out.trans nQ (λj hj=>Qf (by rw[Qa.1 hj];exact fM.out.2.2.2.1 fb rfl))).trans br (λj hj=>Qf (by rw[Qa.1 hj];exact fM.out.2.1)));have Jr:=lh (show oV ob (xs1++[.slice o17 L2.length p17,.slice (some ⟨gY,0,none⟩) N N]) AH from KL.out.add (λk b hk hb=>ZG.out b (by
   have hz:=uW.size;rcases (show k=0\/k=1 by simp at hk;omega) with rfl | rfl
   ·have h1:=(hr17.low b (by
     have:(QB o17 L2.length p17).ownBlock=some b:=hb;rw[this];simp)).1
    have h2:xF.drew.heap.size=xF.heap.size:=rfl;omega
   have:gY=b:=by simpa[Qd] using hb
   have h1:=hbb2.lt.1;omega)))
  have aum:=Qc aie (Qc nQ.size br.size);clear br aT ug rR aaW ag3 YG hr17 hbb2 aG DD uW Jv bH iN nQ hc18 agL aax apS XV s3 f3 jQ P9 Zf x0 q3 ahc Fz Ed ait afN abK ae1 aap KL RN RS HB0 aie Tt KW af8 V3 Vq aa9 acp ZZ apR amy amU apx;generalize XZ.setCell ⟨sb,3,none⟩ (.slice (some ⟨Pm,0,none⟩) (F0+1) fc2)=w20 at *;obtain⟨SK,afW⟩:∃ SK,xs1++[.slice o17 L2.length p17,.slice (some ⟨gY,0,none⟩) N N]=SK:=⟨_,rfl⟩;obtain⟨F2,Vw⟩:∃ F2,F1++[L2]=F2:=⟨_,rfl⟩;have q9:=lh Vw;rw[afW] at K0 Jr;rw[Vw] at K0;have XT:=lh (show F2.length=F0+1 by rw[<-Vw,Qe,acu.out];rfl);clear afW Vw
  -- the cw,one by one
  obtain⟨R1,Ep⟩:∃ R1,s.rest.eraseIdx i=R1:=⟨_,rfl⟩;have anb:=lh Ep;have aao:n1=R1.length:=by rw[<-Ep];exact HN1.out.symm
  rw[Ep] at K5;have HRF:=lh (show ∀ r∈R1,(∀ v∈r.ends,0<=v/\v<N)/\r.ends.length<=1024/\r.ak.length<=2050 from λr hr=>HP.out.rest r (by rw[<-Ep] at hr;exact List.mem_of_mem_eraseIdx hr));have axm:n1<=1024:=by
   have h1:=HP.out.rl;have h2:=HN1.out;have h3:=Qy s.rest i;omega
  clear Ep;obtain⟨oP,GQ⟩:∃ oP:List Nat,Hid ((∀ j∈oP,j=rb\/∃ l,l<AH.length/\(AH.getD l undef).ownBlock=some j)/\rb∈oP/\∀ l b,l<AH.length->(AH.getD l undef).ownBlock=some b->b∈oP):=by
   refine⟨rb :: (QE AH.length).flatMap λl=>(AH.getD l undef).ownBlock.toList,lh ⟨λj hj=>?_,by simp,λl b hl hb=>?_⟩⟩
   ·simp only[Ql,Qp,Qt] at hj
    rcases hj with r | ⟨l,hl,r⟩
    ·exact Qf r
    exact Qw ⟨l,hl,by simpa using r⟩
   simp only[Ql,Qp,Qt];exact Qw ⟨l,hl,by rw[hb];simp⟩
  have Cu:=lh (show ∀ j∈oP,j∈own from λj hj=>by
   rcases GQ.out.1 j hj with r | ⟨l,hl,r⟩
   ·rw[r];exact fM.out.2.2.2.2.1
   exact af3.out l j hl r)
  have HK0:=lh (show ∀ j∈oP,bL w20 j 162\/bL w20 j 3 from λj hj=>by
   rcases GQ.out.1 j hj with r | ⟨l,hl,r⟩
   ·rw[r];exact Qf (bM K5.out.out rfl)
   have:=K5.out.kind hl r;exact Qw this.2.2)
  have apQ:=lh (show sb ∉ oP from λq=>(HK0.out sb q).elim (λh=>Nc.out.kind.ne h (by decide) rfl) (λh=>Nc.out.kind.ne h (by decide) rfl));have amI:=lh (show ob ∉ oP from λq=>(HK0.out ob q).elim (λh=>Nc.out.on.cO.ne h (by decide) rfl) (λh=>Nc.out.on.cO.ne h (by decide) rfl));have aes:=lh (show Pm ∉ oP from λq=>(HK0.out Pm q).elim (λh=>(bM K0.out.out rfl).ne h (by decide) rfl) (λh=>(bM K0.out.out rfl).ne h (by decide) rfl));have V1:=lh (show ∀ k b,k<SK.length->(SK.getD k undef).ownBlock=some b->b ∉ oP from λk b hk hb q=>by
   rcases GQ.out.1 b q with r | ⟨l,hl,r⟩
   ·have h1:=(K0.out.kinds hk hb).2.2
    rw[r] at h1;have h2:bL w20 rb 162:=bM K5.out.out rfl;exact h1.elim (λh=>h2.ne h (by decide) rfl) (λh=>h2.ne h (by decide) rfl)
   exact Jr.out.y k l b hk hl hb r)
  have anN:=lh (show ∀ b,(QB o0 c.ag.length p0).ownBlock=some b->b ∉ oP from λb hb q=>by
   rcases GQ.out.1 b q with r | ⟨l,hl,r⟩
   ·have h2:bL w20 rb 162:=bM K5.out.out rfl
    have h3:=agY.out.cO hb;rw[r] at h3;exact h2.ne h3 (by decide) rfl
   exact aoD.out l b hl r hb)
  have anF:=lh (show wb ∉ oP from λq=>by
   have h1:=(fM.out.1 wb (Cu.out wb q)).2;have h2:=uF.out;have h3:=amO.out;omega)
  have abl:=lh (show bb ∉ oP from λq=>by
   have h1:=(fM.out.1 bb (Cu.out bb q)).2;have h2:=uF.out;have h3:=al6.out;omega)
  obtain⟨T,hT⟩:∃ T,fH g F2 (f:Int) (F0:Int)=T:=⟨_,rfl⟩;have U9:=lh hT;have nj:=lh (show ∀ r:bh,(f:Int)∈r.ak->T r=⟨r.ag,r.ends,r.ak.erase (f:Int)++jD g F2 r.ends [(f:Int),(F0:Int)]⟩ from λr h=>by rw[<-hT];exact Oh h);have ahi:=lh (show ∀ r:bh,(f:Int) ∉ r.ak->T r=r from λr h=>by rw[<-hT];exact Km h);have nk:=lh (show ∀ j,j<=n1->(iT T R1 j).length=n1 from λj hj=>by rw[E3 (by omega)];exact aao.symm);have aeX:=lh aao;have aqX:=lh (show wb<w20.heap.size/\bb<w20.heap.size from⟨(ag4.out.low wb (by simp[Qd])).2,(show bL w20 bb 3 from⟨_,_,Rt.out⟩).lt⟩);have atP:=K5.out.cells;clear hT aao;have q4:=Nc.out.q4;obtain⟨x0,-,-,-⟩:=wA.out _ aeq.out;go_wp2_with fail;clear x0 q4;go_loopw [15,16,17,148] (λ_ _ _ cj wx=>∃ j:Nat,j<=n1/\cj=.int .i64 j/\∃ zs,bN wx w0.heap.size 162 3 (.slice (some ⟨rb,0,none⟩) n1 rc) n1 zs (eG (iT T R1 j))/\Hid (∀ l b,l<zs.length->(zs.getD l undef).ownBlock=some b->b∈oP\/w20.heap.size<=b)/\Hid (∀ l,3*j<=l->zs.getD l undef=AH.getD l undef)/\ai oP w20 wx) (λ_ _ _ cj _=>n1 - (intOf cj).toNat);case atStart=>exact⟨0,QD _,rfl,AH,by rw[NP];exact K5.out,lh (λl b hl hb=>Qf (GQ.out.2.2 l b hl hb)),lh (λ_ _=>rfl),ai.refl _ _⟩
  case round =>
   obtain⟨j,hj,rfl,zs,TT,HZL,ZH,UN⟩:=hrel;have HNZ:=lh TT;have Yu:=lh UN;have acy:=aeq.out.trans UN (λk hk=>Qf (Cu.out k hk));have HTZ:=lh acy;have hbz:=Nc.out.more UN (λk hk=>(fM.out.1 k (Cu.out k hk)).1) apQ.out amI.out;have HBZ:=lh hbz;have Yn:=lh (K0.out.aL UN (λb hb=>by
    have e:Pm=b:=by simpa[Qd] using hb
    rw[<-e];exact aes.out) V1.out)
   obtain⟨x0,-,-,-⟩:=wA.out _ acy;have q4:=hbz.q4;have Uy:=TT.cells;by_cases aW:j<n1
   ·obtain⟨r,hr⟩:∃ r,R1.getD j ⟨[],[],[]⟩=r:=⟨_,rfl⟩
    have XF:j<R1.length:=by have:=aeX.out;omega
    have Nx:r∈R1:=by rw[<-hr];simp[Qx,XF]
    obtain⟨t0,t1,t2⟩:=DW (R:=iT T R1 j) (j:=j) (by rw[nk.out j hj];exact aW);rw[Ef XF,hr] at t0 t1 t2;have k1:=TT.cell (k:=3*j+1) (by omega);have k2:=TT.cell (k:=3*j+2) (by omega);have m1:=TT.row t1;have m2:=TT.row t2;rw[Qs 3 j] at k1 k2 m1 m2 t2;obtain⟨u1,PO⟩:∃ u,zs.getD (j*3+1) undef=u:=⟨_,rfl⟩;obtain⟨u2,WC⟩:∃ u,zs.getD (j*3+2) undef=u:=⟨_,rfl⟩;rw[PO] at k1 m1;rw[WC] at k2 m2;have YF:∀ b,u1.ownBlock=some b->u2.ownBlock≠some b:=λb h1 h2=>by
     rcases TT.apart (j*3+1) (j*3+2) (by omega) (by omega) (by omega) with q | q
     ·rw[PO,h1] at q;cases q
     rw[PO,WC,h1,h2] at q;exact q rfl
    have aij:∀ b,u2.ownBlock=some b->b∈oP:=λb hb=>by
     rw[<-WC,ZH.out _ (by omega)] at hb;exact GQ.out.2.2 _ b (by omega) hb
    obtain⟨o1,c1,rfl⟩:=m1.shape;obtain⟨o2,c2,rfl⟩:=m2.shape;have MI:=lh m1;have sY:=lh m2;have HT2:=lh t2;have HU2:=lh WC;have aiJ:=lh YF;have alZ:=lh aij;have HRR:=lh (HRF.out r Nx);have anY:r.ak.length<1000000000:=by have:=HRR.out.2.2;omega
    have nC:(j:Int)<(n1:Int):=by omega
    have HJR:=lh XF;have Xb:=lh hr;clear hr XF Nx t0 t1 t2 PO WC YF aij m1 TT UN acy hbz;go_wp2_with fail;refine (RF _ r.ak (f:Int) _ _ anY m2).mono ?_;rintro e WV ⟨rfl,hc22⟩;by_cases EA:(f:Int)∈r.ak
    ·obtain⟨e1,e2,e3⟩:=Wo EA
     rw[e1];obtain⟨kx,hkx⟩:∃ kx,r.ak.idxOf (f:Int)=kx:=⟨_,rfl⟩;rw[hkx] at e2 e3 ⊢;obtain⟨gg,eg,-⟩:=m2.some (by omega);subst eg;have Kc:=alZ.out gg rfl;have PD:=m2.cO (b:=gg) rfl;have DN:pb ∉ [gg]:=by
      rw[Qa];intro q;have h1:=(fM.out.1 gg (Cu.out gg Kc)).2;have h2:=uF.out;omega
     have zI:rb ∉ [gg]:=by
      rw[Qa];exact (bM HNZ.out.out rfl).ne PD (by decide)
     have aoy:sb ∉ [gg]:=by
      rw[Qa];exact HBZ.out.kind.ne PD (by decide)
     have aob:ob ∉ [gg]:=by
      rw[Qa];exact HBZ.out.on.cO.ne PD (by decide)
     have ap8:bb ∉ [gg]:=by
      rw[Qa];exact λq=>abl.out (q ▸ Kc)
     have wk:IntKind.i64.wrap ((kx:Int)+1)=(kx:Int)+1:=IntWalk.i64_in _ (by omega);have hkp:(0:Int)<=(kx:Int):=by omega
     obtain⟨E1,hE1⟩:∃ E1,r.ak.eraseIdx kx=E1:=⟨_,rfl⟩;have HE1:=lh hE1;have awn:E1.length<=2050:=by
      have:=Qy r.ak kx;have:=HRR.out.2.2;rw[<-hE1];omega
     obtain⟨FT,hFT⟩:∃ FT,jD g F2 r.ends [(f:Int),(F0:Int)]=FT:=⟨_,rfl⟩;have yn:=lh hFT;have aus:FT.length<=2:=by
      rw[<-hFT];unfold jD;exact QA _ _
     obtain⟨Md,acH⟩:∃ Md,E1++FT=Md:=⟨_,rfl⟩;have ans:=lh acH;have mC:E1.length+FT.length<4294967296:=by omega
     have Iq:=lh (show T r=⟨r.ag,r.ends,Md⟩ by rw[nj.out r EA,<-acH,<-hFT,<-hE1,e3]);have Rm:∀ x∈[(f:Int),(F0:Int)],0<=x/\x<(F2.length:Int):=λx hx=>by
      have h1:=XT.out;rcases Ql.1 hx with q | q
      ·rw[q];omega
      rw[Qa.1 q];omega
     have ZL:=lh Rm;have aaj:F2.length<1000000:=by have:=XT.out;omega
     have hrel:r.ends.length<1000000:=by have:=HRR.out.2.1;omega
     have hIF:bF (f:Int):=bF.mk (by omega) (by omega);have Z7:bF (F0:Int):=bF.mk (by omega) (by omega);have y0:=hc22.bO x0;have y1:=hc22.bO k1;have y2:=hc22.bO k2;have XU:=lh (HNZ.out.fresh hc22);have alA:=lh (HBZ.out.fresh hc22);have apo:=lh (Yn.out.fresh hc22);have afl:=lh (MI.out.aL hc22 (by simp));have agx:=lh (m2.aL hc22 (by simp));have Rw:=lh (Yu.out.tr hc22);clear hkx e1 e3 hE1 hFT acH Rm hc22 k1 k2 m2 x0 q4 PD EA;go_wp2_with fail;have aG:ai [gg] WV WV.drew:=(ai.refl [gg] WV).drew;refine al (ai [gg] WV) [0,1,2,3,4,5,6,7,9,10,11,12,13,14,17,18] (Way.line [0,1,2,3,4,5,6,7,9,10,11,12,13,14,8,15,16,17,18,19] .done) (by kernel_rfl) (by kernel_rfl) ?_;simp only[Way.line]
     repeat (refine aj (v:=?_) rfl (by rfl) (by rfl) (λ_ _ _ h=>h) aG (λw' aB=>?_) ?_;rotate_left;(focus (have fE:=aB.cell y0 (by first | exact DN | exact zI);have fV:=aB.cell y1 (by first | exact DN | exact zI);have kD:=aB.cell y2 (by first | exact DN | exact zI);clear aB;go_simp;try with_reducible rfl));simp only[Qb,Z1,Z2,Z3,Z4,Z5,Z6])
     refine aq rfl (by rfl) (by rfl) (λK hK=>?_);go_simp;refine (SD gg c2 kx w0.heap.size r.ak WV.drew (agx.out.aL (ai.refl [] WV).drew (by simp)) e2).mono ?_;rw[HE1.out];rintro e w23 ⟨rfl,hr23,hc23⟩;have bH:ai [gg] WV w23:=aG.trans hc23 (λk hk=>Qf hk);refine hK.out _ _ (λ_=>bH) ?_;clear hK K aG hc23;try simp only[Qb,Z1,Z2,Z3,Z4,Z5,Z6]
     repeat (refine aj (v:=?_) rfl (by rfl) (by rfl) (λ_ _ _ h=>h) bH (λw' aB=>?_) ?_;rotate_left;(focus (have fE:=aB.cell y0 (by first | exact DN | exact zI);have fV:=aB.cell y1 (by first | exact DN | exact zI);have kD:=aB.cell y2 (by first | exact DN | exact zI);clear aB;go_simp;try with_reducible rfl));simp only[Qb,Z1,Z2,Z3,Z4,Z5,Z6])
     have abh:=alA.out.more bH (by simpa using (fM.out.1 gg (Cu.out gg Kc)).1) aoy aob;have agd:=apo.out.aL bH (λb hb hm=>by
      have e:Pm=b:=by simpa[Qd] using hb
      rw[Qa] at hm;exact aes.out (by rw[e,hm];exact Kc)) (λk b hk hb hm=>by
      rw[Qa] at hm;exact V1.out k b hk hb (by rw[hm];exact Kc))
     have ah2:=afl.out.aL bH (λb hb hm=>by
      rw[Qa] at hm;exact aiJ.out b (by simpa using hb) (by rw[hm];rfl))
     have X8:=bH.heap (Rw.out.heap Rt.out abl.out) ap8;refine aq rfl (by rfl) (by rfl) (λK hK=>?_);go_simp;refine (wC sb N w0.heap.size _ _ _ g F2 SK r.ends [(f:Int),(F0:Int)] w23 abh.q3 agd hrel (by simp) HRR.out.1 ZL.out aaj ah2.ints (L6 X8 hIF Z7)).mono ?_;rw[yn.out];rintro e w24 ⟨v24,rfl,hr24,hc24⟩;obtain⟨o24,p24,rfl⟩:=hr24.shape;have iN:ai [gg] WV w24:=bH.tr hc24;refine hK.out _ _ (λ_=>iN) ?_;clear hK K;try simp only[Qb,Z1,Z2,Z3,Z4,Z5,Z6]
     refine aq rfl (by rfl) (by rfl) (λK hK=>?_);simp only[Qm,Qj,Qk];refine Sz (v:=.slice (some ⟨gg,0,none⟩) E1.length c2) (u:=.slice o24 FT.length p24) (.tmp 173) (.tmp 180) rfl rfl rfl (hr23.aL hc24 (by simp)) hr24 (abh.fresh hc24).aL.size mC (λv25 w25 r1 r2 r3=>?_);have nQ:ai [gg] WV w25:=iN.trans r2 (λk hk=>Qf (by simpa[aC,Qd] using hk));rw[ans.out] at r1;obtain⟨XD,VG,rfl⟩:=r1.shape;refine hK.out _ _ (λ_=>nQ) ?_;clear hK K;try simp only[Qb,Qn,Qu,Qv]
     repeat (refine aj (v:=?_) rfl (by rfl) (by rfl) (λ_ _ _ h=>h) nQ (λw' aB=>?_) ?_;rotate_left;(focus (have fE:=aB.cell y0 (by first | exact DN | exact zI);have fV:=aB.cell y1 (by first | exact DN | exact zI);have kD:=aB.cell y2 (by first | exact DN | exact zI);clear aB;go_simp;try with_reducible rfl));simp only[Qb,Z1,Z2,Z3,Z4,Z5,Z6])
     have z2:=nQ.cell y2 zI;obtain⟨rcs,hrh⟩:=GG XU.out.out;have z3:=bE (nQ.heap hrh zI) (j*3+2);refine aq rfl (by rfl) (by rfl) (λK hK=>?_);go_simp;refine hK.out _ _ (λh=>absurd h (Qi.1 (by kernel_rfl))) ?_;clear hK K;try simp only[Qb,Z1,Z2,Z3,Z4,Z5,Z6]
     refine ar ?_;have hzq:j*3+2<zs.length:=by omega
     have Xw:=XU.out.put (q:=j*3+2) (v:=.slice XD Md.length VG) (by decide) hzq HT2.out r1 (by rw[HU2.out];exact nQ) (λb hb=>by
      rw[HU2.out];rcases r3 b hb with q | q
      ·exact Qf q
      exact Qw (Qc iN.size q))
     have ahP:(eG (iT T R1 j)).set (j*3+2) (.row Md)=eG (iT T R1 (j+1)):=by
      have h1:=nk.out j hj;have h2:=Ef (t:=T) HJR.out ⟨[],[],[]⟩;rw[Cy HJR.out ⟨[],[],[]⟩,Xb.out,Iq.out];exact Hc (c:=⟨r.ag,r.ends,Md⟩) (by omega) (by rw[h2,Xb.out]) (by rw[h2,Xb.out])
     rw[ahP] at Xw;have Yo:=lh Xw;have aoG:=lh (show ∀ l b,l<(zs.set (j*3+2) (.slice XD Md.length VG)).length->((zs.set (j*3+2) (.slice XD Md.length VG)).getD l undef).ownBlock=some b->b∈oP\/w20.heap.size<=b from λl b hl hb=>by
      rw[Qz] at hl;rw[eK _ _ _ _ _ hzq] at hb;by_cases q:l=j*3+2
      ·rw[if_pos q] at hb
       rcases r3 b (by rw[show aC (.slice XD Md.length VG)=(QB XD Md.length VG).ownBlock.toList from rfl,hb];simp) with t | t
       ·left
        have:b=gg:=by simpa[aC,Qd] using t
        rw[this];exact Kc
       right;have h1:=Rw.out.size;have h2:=iN.size;omega
      rw[if_neg q] at hb;exact HZL.out l b hl hb)
     have aol:=lh (show ∀ l,3*(j+1)<=l->(zs.set (j*3+2) (.slice XD Md.length VG)).getD l undef=AH.getD l undef from λl hl=>by
      rw[eK _ _ _ _ _ hzq,if_neg (by omega)];exact ZH.out l (by omega))
     have gU:=lh (show ai oP w20 (w25.setCell ⟨rb,j*3+2,none⟩ (.slice XD Md.length VG)) from ((Rw.out.trans nQ (λk hk=>Qf (by rw[Qa.1 hk];exact Kc))).setCell (p:=⟨rb,j*3+2,none⟩) (Qf GQ.out.2.1) _));clear Xw ahP bH iN nQ r1 r2 r3 hr23 hr24 hc24 abh agd ah2 X8 hrh z2 z3 y0 y1 y2 hzq;generalize w25.setCell ⟨rb,j*3+2,none⟩ (.slice XD Md.length VG)=w26 at *;generalize zs.set (j*3+2) (.slice XD Md.length VG)=zs2 at *;go_wp2;go_roundw;case rel=>exact⟨j+1,by omega,by go_num,zs2,Yo.out,aoG,aol,gU.out⟩
     case measure=>simp[intOf];omega
    have e1:ixI r.ak (f:Int) = -1:=if_neg EA;rw[e1];have aii:=lh (show iT T R1 (j+1)=iT T R1 j from Nw HJR.out ⟨[],[],[]⟩ (by rw[Xb.out];exact ahi.out r EA));have XU:=lh (HNZ.out.fresh hc22);have Rw:=lh (Yu.out.tr hc22);clear hc22 k1 k2 m2 x0 q4;go_wp2;go_roundw;case rel=>exact⟨j+1,by omega,by go_num,zs,by rw[aii.out];exact XU.out,HZL,lh (λl hl=>ZH.out l (by omega)),Rw.out⟩
    case measure=>simp[intOf];omega
   have e:j=n1:=by omega
   subst e;have HNR:=lh (show iT T R1 j=R1.map T by rw[aeX.out];exact Uk T R1);have Dx:=agY.out.aL Yu.out (λb hb hm=>anN.out b (by simpa using hb) hm);have Ie:=ag4.out.aL Yu.out (λb hb hm=>by
    have e:b=wb:=by simpa[Qd] using hb
    exact anF.out (by rw[<-e];exact hm))
   have ai0:=Yu.out.heap Rt.out abl.out;have HEZ:=lh Dx;have HWZ:=lh Ie;have amm:=lh ai0;obtain⟨W,hW⟩:∃ W,a8 c.ag wy=W:=⟨_,rfl⟩;have HWW:=lh hW;have hWl:W.length<=1024:=by
    rw[<-hW];exact Qc (QA _ _) HP.out.LU
   have amp:=lh (show ∀ e∈W,0<=e/\e<g.e.length from λe he=>by
    rw[<-hW] at he;exact HP.out.ag e (cU.1 he).1)
   obtain⟨SC,Zu⟩:∃ SC,Plain.cw g (eX g s.on wy) F2 W [(f:Int),(F0:Int)]=SC:=⟨_,rfl⟩;have HSC:=lh Zu;have axP:SC.length<=1024:=by
    rw[<-Zu];exact Qc (NS (by rw[<-hW];exact HP.out.part.en.filter _)) hWl
   have HED:=lh (show ∀ e∈c.ag,0<=e/\e<1000000 from λe he=>by
    have h1:=HP.out.ag e he;have h2:=iL.out;omega)
   have Rm:∀ x∈[(f:Int),(F0:Int)],0<=x/\x<(F2.length:Int):=λx hx=>by
    have h1:=XT.out;rcases Ql.1 hx with q | q
    ·rw[q];omega
    rw[Qa.1 q];omega
   have ZL:=lh Rm;have aaj:F2.length<1000000:=by have:=XT.out;omega
   have hIF:bF (f:Int):=bF.mk (by omega) (by omega);have Z7:bF (F0:Int):=bF.mk (by omega) (by omega);have af2:c.ag.length<=1000000:=by omega
   have awS:rb<wr.heap.size:=(bM HNZ.out.out rfl).lt;have VX:bL wr rb 162:=bM HNZ.out.out rfl;have sq:pb ∉ [rb]:=by
    rw[Qa];intro q;have h1:=(fM.out.1 rb fM.out.2.2.2.2.1).2;have h2:=uF.out;omega
   have s9:pb+1 ∉ [rb]:=by
    rw[Qa];intro q;have h1:=(fM.out.1 rb fM.out.2.2.2.2.1).2;have h2:=uF.out;omega
   have oM:sb ∉ [rb]:=by
    rw[Qa];exact HBZ.out.kind.ne VX (by decide)
   have amV:ob ∉ [rb]:=by
    rw[Qa];exact HBZ.out.on.cO.ne VX (by decide)
   have alk:Pm ∉ [rb]:=by
    rw[Qa];exact (bM Yn.out.out rfl).ne VX (by decide)
   have aet:=(fM.out.1 rb fM.out.2.2.2.2.1).1;have RV:j+SC.length<68719476736:=by omega
   obtain⟨x0,x1,-,-⟩:=wA.out _ HTZ.out;clear hW Zu Rm Dx Ie ai0 VX;go_wp2_with fail;have aG:ai [rb] wr wr.drew:=(ai.refl [rb] wr).drew;refine al (ai [rb] wr) [0,1,2,3,4,5,6,7,8,10,13,14] (Way.line [0,1,2,3,4,5,6,7,8,10,9,11,12,13,14,15] .done) (by kernel_rfl) (by kernel_rfl) ?_;simp only[Way.line];have DD:ai [] wr wr.drew:=(ai.refl [] wr).drew
   repeat (refine aj (v:=?_) rfl (by rfl) (by rfl) (λ_ _ _ h=>h) aG (λw' aB=>?_) ?_;rotate_left;(focus (have fE:=aB.cell x0 (by first | exact sq | exact s9 | exact oM);have fV:=aB.cell x1 (by first | exact sq | exact s9 | exact oM);have kD:=aB.cell q4 (by first | exact sq | exact s9 | exact oM);clear aB;go_simp;try with_reducible rfl));simp only[Qb,Z1,Z2,Z3,Z4,Z5,Z6])
   refine aq rfl (by rfl) (by rfl) (λK hK=>?_);go_simp;refine (xc _ _ c.ag wy wr.drew af2 agA HED.out (HEZ.out.aL DD (by simp)).ints (HWZ.out.aL DD (by simp)).ints).mono ?_;rw[HWW.out];rintro e w31 ⟨v31,rfl,hr31,hc31⟩;obtain⟨o31,p31,rfl⟩:=hr31.shape;have bH:ai [rb] wr w31:=aG.tr hc31;have uW:ai [] wr w31:=DD.tr hc31;refine hK.out _ _ (λ_=>bH) ?_;clear hK K aG DD hc31;try simp only[Qb,Z1,Z2,Z3,Z4,Z5,Z6]
   repeat (refine aj (v:=?_) rfl (by rfl) (by rfl) (λ_ _ _ h=>h) bH (λw' aB=>?_) ?_;rotate_left;(focus (have fE:=aB.cell x0 (by first | exact sq | exact s9 | exact oM);have fV:=aB.cell x1 (by first | exact sq | exact s9 | exact oM);have kD:=aB.cell q4 (by first | exact sq | exact s9 | exact oM);clear aB;go_simp;try with_reducible rfl));simp only[Qb,Z1,Z2,Z3,Z4,Z5,Z6])
   have JK:=HBZ.out.fresh uW;refine aq rfl (by rfl) (by rfl) (λK hK=>?_);go_simp;refine (zQ sb ob N w0.heap.size _ _ _ _ g (eX g s.on wy) F2 SK W [(f:Int),(F0:Int)] w31 JK.A6 JK.q2 JK.on JK.q3 (Yn.out.fresh uW) aaj hWl amp.out hr31.ints (by simp) ZL.out (L6 (uW.hp amm.out) hIF Z7)).mono ?_;rw[HSC.out];rintro e w32 ⟨v32,ys3,rfl,hn32,hc32⟩;obtain⟨o32,p32,rfl⟩:=hn32.shape;have iN:ai [rb] wr w32:=bH.tr hc32;have Jv:ai [] wr w32:=uW.tr hc32;refine hK.out _ _ (λ_=>iN) ?_;clear hK K;try simp only[Qb,Z1,Z2,Z3,Z4,Z5,Z6]
   have Rz:=HNZ.out.fresh Jv;refine aq rfl (by rfl) (by rfl) (λK hK=>?_);simp only[Qm,Qj,Qk];refine CO mR (v:=.slice (some ⟨rb,0,none⟩) j rc) (u:=.slice o32 SC.length p32) (.tmp 189) (.tmp 196) rfl rfl rfl Rz.out hn32.out (JK.fresh hc32).aL.size (λu hu=>by
    obtain⟨k,hk,rfl⟩:=List.mem_iff_getElem.1 hu;obtain⟨cc,-,xQ⟩:=hn32.fit hk;have:=xQ.one;simpa[Qx,hk] using this) RV (λv33 w33 r1 r2 r3=>?_)
   have nQ:ai [rb] wr w33:=iN.trans r2 (λk hk=>Qf (by simpa[Qd] using hk));obtain⟨o33,p33,rfl⟩:=bR r1;refine hK.out _ _ (λ_=>nQ) ?_;clear hK K;try simp only[Qb,Qn,Qu,Qv]
   repeat (refine aj (v:=?_) rfl (by rfl) (by rfl) (λ_ _ _ h=>h) nQ (λw' aB=>?_) ?_;rotate_left;(focus (have fE:=aB.cell x0 (by first | exact sq | exact s9 | exact oM);have fV:=aB.cell x1 (by first | exact sq | exact s9 | exact oM);have kD:=aB.cell q4 (by first | exact sq | exact s9 | exact oM);clear aB;go_simp;try with_reducible rfl));simp only[Qb,Z1,Z2,Z3,Z4,Z5,Z6])
   have SJ:=HBZ.out.more nQ (by simpa using aet) oM amV;have s4:=SJ.q4;have f4:=SJ.free 4;refine aq rfl (by rfl) (by rfl) (λK hK=>?_);go_simp;refine hK.out _ _ (λh=>absurd h (Qi.1 (by kernel_rfl))) ?_;clear hK K;try simp only[Qb,Z1,Z2,Z3,Z4,Z5,Z6]
   refine ar ?_;have Y5:=hn32.base (B:=w0.heap.size) JK.aL.size;have ND:∀ k l b,k<zs.length->l<ys3.length->(zs.getD k undef).ownBlock=some b->(ys3.getD l undef).ownBlock≠some b:=λk l b hk hl hb hc=>by
    have h1:=(HNZ.out.kind hk hb).2.1;have h2:=(hn32.kind hl hc).1;have h3:=uW.size;omega
   have Sy:=Rz.cat Y5 (by decide) ND r1 r2;have br:ai [sb] w33 (w33.setCell ⟨sb,4,none⟩ (.slice o33 (j+SC.length) p33)):=(ai.refl _ _).setCell (Qf (by simp)) _;have ug:∀ k∈[sb],bL w33 k 113:=λk hk=>by rw[Qa.1 hk];exact SJ.kind
   have HBF:=lh (SJ.ahK (.slice o33 (j+SC.length) p33));have aho:=Yn.out.aL nQ (λb hb hm=>by
    have e:Pm=b:=by simpa[Qd] using hb
    exact alk (by rw[e];exact hm)) (λk b hk hb hm=>by
    rw[Qa] at hm;exact V1.out k b hk hb (by rw[hm];exact GQ.out.2.1))
   have HFF:=lh (aho.other br (λk hk=>⟨_,ug k hk,by decide,by decide,by decide⟩));have EB:=lh (Sy.others br (λk hk=>⟨_,ug k hk,by decide,by decide⟩));have ap6:=lh (show oV ob SK (zs++ys3) from⟨Jr.out.o,λk l b hk hl hb hc=>by
    rw[Qe] at hl;have gZ:=(K0.out.kinds hk hb).2.1;by_cases q:l<zs.length
    ·rw[cP q] at hc
     rcases HZL.out l b q hc with t | t
     ·exact V1.out k b hk hb t
     omega
    rw[dS (by omega)] at hc;have h2:=(hn32.kind (by omega) hc).1;have h3:=uW.size;have h4:=Yu.out.size;omega⟩)
   have S5:=lh (show s.put g b.v i=⟨eX g s.on wy,F2,iT T R1 j++SC⟩ by
    rw[Fc.out k1 j1 o HK1.out HO.out HJ1.out,anb.out,Vl.out,It.out,UX.out,Pp.out,q9.out,U9.out,HWW.out,HSC.out,HNR.out])
   have hlen:(iT T R1 j++SC).length=j+SC.length:=by rw[Qe,nk.out j hj]
   have hs3:eG (iT T R1 j)++eG SC=eG (iT T R1 j++SC):=by simp[eG]
   clear Sy br ug aho SJ JK Rz hn32 Y5 ND r1 r2 r3 uW Jv bH iN nQ hc32 hr31 s4 f4 x0 x1 q4;generalize w33.setCell ⟨sb,4,none⟩ (.slice o33 (j+SC.length) p33)=w34 at *;go_wp2;refine bodyPost_end (v:=.tuple #[]) (by simp[results,Tryz.results84,go_sem]) rfl ?_;refine⟨rfl,.slice (some ⟨Pm,0,none⟩) (F0+1) fc2,.slice o33 (j+SC.length) p33,SK,zs++ys3,?_⟩;rw[S5.out];refine⟨HBF.out,HFF.out,?_,ap6.out⟩;show bN w34 w0.heap.size 162 3 _ (iT T R1 j++SC).length _ (eG (iT T R1 j++SC));rw[hlen,<-hs3];exact EB.out
