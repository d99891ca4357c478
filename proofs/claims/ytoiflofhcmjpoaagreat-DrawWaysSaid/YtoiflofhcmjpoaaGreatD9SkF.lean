/- draw's step, whole: a sketch stays what it is, and less is left. No program here. -/
import Derived.Test.YtoiflofhcmjpoaaGreatD9SkA
import Derived.Test.YtoiflofhcmjpoaaGreatD9Calm2
open List renaming count→Qa,mem_map→Qb,count_append→Qc,mem_filter→Qf,mem_append→Qg,flatMap_append→Qh,perm_iff_count→Qi,count_pos_iff→Qj,perm_ext_iff_of_nodup→Qk,exists_mem_of_ne_nil→Ql,length_take→Qm,eq_nil_or_concat→Qo,concat_eq_append→Qp,nodup_iff_count→Qq,nodup_append→Qs,mem_flatMap→Qt
open Go.Value renaming slice→Qd
open Bool renaming eq_false_iff→Qe
open Go.World renaming block_lt_of_cell?→Qn
open Or renaming inr→Qr,inl→Qv
open Go.Act renaming put→Qu
namespace Go.Proofs.YtoiflofhcmjpoaaGreat.Plain
def Sk.left (s:Sk):Nat:=(s.rest.flatMap (·.aq)).length
theorem Wg {g:Gr} {b:Pt} {s:Sk} {p:Pt} {aa:List (List Int)} {i:Nat} (rI:b.err g=0) (hS:cQ g b) (h:zQ g b s p aa) (hi:i<s.rest.length) (hf:(s.rest.getD i ⟨[],[],[]⟩).ak≠[]) :
  ∃ p' iW,zQ g b (s.put g b.v i) p' iW/\(s.put g b.v i).left<s.left:=by
 have nr:=Pt.ay rI;have iM:=Pt.ay h.ak.pe;obtain⟨hsp,hse⟩:=oO hi (⟨[],[],[]⟩:a8);unfold Sk.put;dsimp only;generalize gO:s.rest.getD i ⟨[],[],[]⟩=c at *;generalize XK:s.rest.take i=R1 at *;generalize hR2:s.rest.drop (i+1)=R2 at *;have oP:c∈s.rest:=by rw[hsp];simp
 have hc:=h.KU c oP;have jQ:=h.part;have wF:s.rest.flatMap (·.aq)=R1.flatMap (·.aq)++(c.aq++R2.flatMap (·.aq)):=by
  grind
 rw[wF] at jQ;have gS:=(jQ.nodup_iff).2 nr.en;have rA:∀ x,Qa x p.e+(Qa x (R1.flatMap (·.aq))+(Qa x c.aq+Qa x (R2.flatMap (·.aq))))<=1:=fun x=>by
  have:=Qq.1 gS x
  grind
 have nt:c.aq.Nodup:=Qq.2 fun x=>by have:=rA x;omega
 have hcp:∀ e∈c.aq,e ∉ p.e:=fun e h1 h2=>by
  grind
 have hcR:∀ e∈c.aq,∀ r,r∈R1\/r∈R2->e ∉ r.aq:=fun e h1 r hr h2=>by
  have:=rA e;have:=Qj.2 h1;rcases hr with hr | hr
  ·have:=Qj.2 (show e∈R1.flatMap (·.aq) from Qt.2 ⟨r,hr,h2⟩)
   omega
  have:=Qj.2 (show e∈R2.flatMap (·.aq) from Qt.2 ⟨r,hr,h2⟩);omega
 have Sg:aB g ⟨b.v,c.aq⟩:=⟨nr.vn,nt,nr.vr,fun e he=>nr.er e (hc.sub e he),fun e he=>nr.ends e (hc.sub e he)⟩
 -- the ends
 obtain⟨a,z0,m,lI⟩:∃ a z0 m,c.ends=a :: z0 :: m:=by
  have:=hc.two
  match hL:c.ends with
  | []=>rw[hL] at this;simp at this
  | [_]=>rw[hL] at this;simp at this
  | a :: z0 :: m=>exact⟨a,z0,m,rfl⟩
 have kD:(a :: z0 :: m).Nodup:=by rw[<-lI,hc.ends];exact jc g s.on c.aq
 have Yr:a∈c.ends:=by rw[lI];simp
 have YB:z0∈c.ends:=by rw[lI];simp
 have WJ:=Yr;have jq:=YB;rw[hc.ends] at WJ jq;obtain⟨hoa,e0,sr,KV⟩:=cC.1 WJ;obtain⟨Ro,e1,A7,I0⟩:=cC.1 jq;have Re:z0≠a:=fun q=>by rw[q] at kD;simp at kD
 have q8:∀ d∈(⟨b.v,c.aq⟩:Pt).ah,0<=d:=fun d hd=>by have:=nr.er _ (hc.sub _ (aw.1 hd));omega
 obtain⟨z,zr⟩:=AJ (g:=g) (on:=s.on) Sg q8 hc.LH sr KV A7 I0 Ro Re;have XJ:c.ends.getD 0 0=a:=by rw[lI];rfl
 rw[XJ];generalize hw0:lY g s.on ⟨b.v,c.aq⟩ a=w at *;have Ln:=zr.qL h.on hoa hcp;obtain⟨D9⟩:w≠[]/\True:=⟨fun q=>zr.ne (by have:=zr.link;rw[q] at this;exact this),trivial⟩;have Zs:g.head (w.getLastD 0)=z:=by
  rcases Qo w with r | ⟨m,e,r⟩
  ·exact absurd r D9
  rw[Qp] at r;have:=zr.link;rw[r] at this ⊢;rw[List.getLastD_eq_getLast?];simpa using gp this
 rw[Zs];have Jh:∀ d∈w,d / 2∈c.aq:=fun d hd=>aw.1 (zr.sub d hd)
 -- z is an end of the scrap
 have Rg:z∈c.ends:=by
  rcases Qo w with r | ⟨m,e,r⟩
  ·exact absurd r D9
  rw[Qp] at r;have h1:=zr.link;rw[r] at h1;rw[hc.ends];have h2:=jL g e;rw[gp h1] at h2;exact cC.2 ⟨zr.oz,e / 2,Jh e (by rw[r];simp),h2.2⟩
 -- the face
 obtain⟨f,fl,Rh⟩:∃ f fl,c.ak=f :: fl:=by
  cases hL:c.ak with
  | nil=>exact absurd hL hf
  | cons f fl=>exact⟨f,fl,rfl⟩
 have Ma:c.ak.getD 0 0=f:=by rw[Rh];rfl
 rw[Ma];obtain⟨Vx,Jw,hfh⟩:=(hc.Sf f).1 (by grind);obtain⟨hFs,-⟩:=oO Jw ([]:List Int);have hold:s.ak.getD f.toNat []=cr s.ak f:=rfl;rw[hold] at hFs;generalize acX:cr s.ak f=old at *;generalize yS:s.ak.take f.toNat=F1 at *;generalize PD:s.ak.drop (f.toNat+1)=F2 at *;have ar3:F1.length=f.toNat:=by rw[<-yS,Qm];omega
 obtain⟨x,y,A,B,U,V,c1,c2,c3,c4,c5⟩:=xf (g:=g) (old:=old) (w:=w) (eQ.1 (hfh a Yr)) (eQ.1 (hfh z Rg)) zr.ne;rw[c5];obtain⟨f1,f2,f3,f4⟩:=LY (F:=s.ak) Vx Jw (x :: A++twins w) (w++y :: B);generalize Wu:s.ak.set f.toNat (x :: A++twins w)++[w++y :: B]=F' at *;have ags:F'.Perm ((x :: A++twins w) :: (w++y :: B) :: (F1++F2)):=by
  have e:s.ak.set f.toNat (x :: A++twins w)=F1++(x :: A++twins w) :: F2:=by
   grind
  rw[<-Wu,e];refine (List.perm_append_comm (l₁:=F1++(x :: A++twins w) :: F2) (l₂:=[w++y :: B])).trans ?_
  grind
 -- the part
 have Ea:∀ v,jO g s.on w v=true↔v∈p.v\/v∈w.map g.tail:=fun v=>by rw[Mh,h.on]
 have VQ:∀ v∈w.map g.tail,v∈b.v:=fun v hv=>by
  obtain⟨d,hd,rfl⟩:=Qb.1 hv;exact (Sg.aO (zr.sub d hd)).1
 have MO:∀ e∈p.e,e∈b.e:=fun e he=>jQ.mem_iff.1 (List.mem_append_left _ he);obtain⟨q,hqd⟩:∃ q:Pt,q=⟨b.v.filter (jO g s.on w),b.e.filter fun e=>decide (e∈p.e) || decide (e∈w.map (· / 2))⟩:=⟨_,rfl⟩;have Fw:∀ v,v∈q.v↔v∈p.v\/v∈w.map g.tail:=fun v=>by
  rw[hqd,Qf,Ea];exact⟨fun k=>k.2,fun k=>⟨k.elim (h.sub v) (VQ v),k⟩⟩
 have Vi:∀ e,e∈q.e↔e∈p.e\/e∈w.map (· / 2):=fun e=>by
  rw[hqd,Qf,Bool.or_eq_true,decide_eq_true_iff,decide_eq_true_iff];refine⟨fun k=>k.2,fun k=>⟨k.elim (MO e) fun k=>?_,k⟩⟩;obtain⟨d,hd,rfl⟩:=Qb.1 k
  grind
 obtain⟨cc,ll,mm⟩:=Ln.cons;have VK:∀ d∈w,g.head d∈w.map g.tail\/g.head d=z:=fun d hd=>by
  have h1:=zr.link;rw[mm] at h1;have h2:=fx h1;have h3:g.head d∈(cc :: ll).map g.head:=by rw[<-mm];exact Qb.2 ⟨d,hd,rfl⟩
  all_goals grind
 have Mc:∀ d∈w,g.tail d∈q.v/\g.head d∈q.v:=fun d hd=>⟨(Fw _).2 (Qr (Qb.2 ⟨d,hd,rfl⟩)),(Fw _).2 ((VK d hd).elim Qr fun k=>Qv (by rw[k];exact Ln.zv))⟩;have G7:q.err g=0:=by
  obtain⟨g1,g2,g3,-⟩:=Pt.aA rI;refine Pt.zu g1 (by grind [eN]) (by grind [eN]) fun e he=>?_;have hb:=nr.er e (by
   have:=he;rw[hqd] at this;exact (Qf.1 this).1)
  show (g.at e).1∈q.v/\(g.at e).2∈q.v;rcases (Vi e).1 he with k | k
  ·exact⟨(Fw _).2 (Qv (iM.ends e k).1),(Fw _).2 (Qv (iM.ends e k).2)⟩
  obtain⟨d,hd,rfl⟩:=Qb.1 k;obtain⟨k1,k2⟩:=Mc d hd;rcases gM g d with ⟨j1,j2⟩ | ⟨j1,j2⟩
  all_goals grind
 have BS:Gw g p w q:=⟨G7,Fw,Vi⟩;have Ei:=Pt.ay G7
 -- the ak
 have WD:eE g p aa ((x :: A++y :: B) :: (F1++F2)):=by
  rw[<-c2];refine eE.P9 ?_;rw[<-c1];refine h.ak.perm ?_;rw[hFs];exact List.perm_middle
 have Kt:x∈p.ah/\y∈p.ah:=by
  have k:∀ d∈x :: A++y :: B,d∈p.ah:=fun d hd=>WD.all.mem_iff.1 (by grind)
  grind
 obtain⟨t1,t2⟩:=si WD Ln BS Kt.1 c3 Kt.2 c4;have hfq:=WD.put Ln BS t1 t2 (List.Perm.refl _) ags c3 c4;have gU:∀ v,jO g s.on w v=false->s.on v=false:=fun v hv=>Qe.2 fun r=>by
  have:=(Ea v).2 (Qv ((h.on v).1 r))
  grind
 have aa4:∀ v,s.on v=true->(du g (cr F' f) v=true->du g (cr s.ak f) v=true)/\(du g (cr F' (s.ak.length:Int)) v=true->du g (cr s.ak f) v=true):=fun v hv=>by
  rw[f2,f3,acX];exact P1 Ln c1 c2 c3 c4 ((h.on v).1 hv)
 have hwo:aX c.aq w=c.aq.filter fun e=>decide (e ∉ w.map (· / 2)):=by
  refine List.filter_congr fun e _=>?_;have h1:=cP (E:=[e]) (l:=w) (e:=e);unfold aX at h1;rw[Qf] at h1;rw[Bool.eq_iff_iff,decide_eq_true_iff,Qb]
  all_goals grind
 have Gh:∀ x,Qa x c.aq=Qa x (w.map (· / 2))+Qa x (aX c.aq w):=fun x=>by
  have Ae:(w.map (· / 2)++aX c.aq w).Perm c.aq:=by
   refine (Qk ?_ nt).2 fun u=>?_
   ·rw[Qs]
    refine⟨Ln.en,nt.filter _,fun u hu v hv e=>?_⟩
    grind
   rw[Qg,cP];constructor
   ·rintro (k | k)
    ·obtain⟨d,hd,rfl⟩:=Qb.1 k;exact Jh d hd
    exact k.1
   all_goals grind
  grind
 have aiG:∀ x,Qa x q.e=Qa x p.e+Qa x (w.map (· / 2)):=fun x=>by
  have Ae:q.e.Perm (p.e++w.map (· / 2)):=by
   refine (Qk Ei.en ?_).2 fun u=>by rw[Vi,Qg]
   rw[Qs];refine⟨iM.en,Ln.en,fun u hu v hv e=>?_⟩;subst e;obtain⟨d,hd,rfl⟩:=Qb.1 hv
   grind
  grind
 have hsE:=lV (g:=g) (on:=jO g s.on w) (F:=F') (ks:=[f,(s.ak.length:Int)]) (E:=aX c.aq w) (nt.filter _);have aco:∀ x,Qa x (((s.rest.eraseIdx i).map (jx g F' f s.ak.length)++dt g (jO g s.on w) F' (aX c.aq w) [f,(s.ak.length:Int)]).flatMap (·.aq))=Qa x (R1.flatMap (·.aq))+Qa x (R2.flatMap (·.aq))+Qa x (aX c.aq w):=fun x=>by
  rw[Qh,zH,hse,Qh,Qc,Qc,hsE.count_eq]
 refine⟨q,fA g p q aa w a z x y,⟨hfq,fun v=>(Ea v).trans (Fw v).symm,fun v hv=>?_,?_,?_,fun r hr=>?_⟩,?_⟩
 ·grind
 ·obtain⟨e,he⟩:=Ql _ h.drawn
  grind
 ·rw[Qi]
  intro x;rw[Qc,aco,aiG,<-jQ.count_eq];simp only[Qc]
  grind
 ·rcases Qg.1 hr with k | k
  ·obtain⟨r0,X3,rfl⟩:=Qb.1 k
   rw[hse] at X3;have hrR:r0∈R1\/r0∈R2:=Qg.1 X3;have TW:r0∈s.rest:=by
    grind
   have fQ:=h.KU r0 TW;refine Ij fQ gU (fun e he v YT hv=>Qe.2 fun j=>?_) Vx Jw f1 f4 aa4;rcases (Ea v).1 j with j | j
   ·rw[(h.on v).2 j] at hv;cases hv
   obtain⟨d,hd,rfl⟩:=Qb.1 j;exact hcR _ (Jh d hd) r0 hrR (fQ.shut e he _ (hc.sub _ (Jh d hd)) ⟨_,hv,YT,(jL g d).1⟩)
  refine Kc hS hc Ei ?_ (fun v=>(Ea v).trans (Fw v).symm) gU (fun v hv=>?_) (fun e he=>?_) (fun d hd=>⟨Jh d hd,(Ea _).2 ((Fw _).1 (Mc d hd).1),(Ea _).2 ((Fw _).1 (Mc d hd).2)⟩) D9 nt (fun e he=>?_) ⟨Vx,by omega⟩ (by grind) (fun j j0 jk jf u hu=>?_) k
  ·obtain⟨e,he⟩:=Ql _ h.drawn
   grind
  ·grind
  ·grind
  ·intro r
   obtain⟨k1,k2⟩:=cP.1 he;rcases (Vi e).1 r with j | j
   ·exact hcp e k1 j
   obtain⟨d,hd,e'⟩:=Qb.1 j;exact k2 d hd e'
  rw[f1 j j0 (by omega) jf] at hu;obtain⟨d,hd,e⟩:=eQ.1 hu;have BD:d∈p.ah:=h.ak.all.mem_iff.1 (List.mem_flatten.2 ⟨_,by
   unfold cr;rw[show s.ak.getD j.toNat []=s.ak[j.toNat]'(by omega) by simp[List.getD,show j.toNat<s.ak.length by omega]];exact List.getElem_mem _,hd⟩)
  rw[<-e];exact (h.on _).2 (iM.aO BD).1
 unfold Sk.left;have hA:(((s.rest.eraseIdx i).map (jx g F' f s.ak.length)++dt g (jO g s.on w) F' (aX c.aq w) [f,(s.ak.length:Int)]).flatMap (·.aq)).Perm (R1.flatMap (·.aq)++R2.flatMap (·.aq)++aX c.aq w):=Qi.2 fun x=>by
  grind
 have hB:c.aq.Perm (w.map (· / 2)++aX c.aq w):=Qi.2 fun x=>by rw[Gh,Qc]
 have h1:=hA.length_eq;have h2:=hB.length_eq
 grind
end Go.Proofs.YtoiflofhcmjpoaaGreat.Plain
-- READS ONLY
namespace Go.Proofs.YtoiflofhcmjpoaaGreat
open Go.RowKit Go.Maps
namespace Plain
def fW (g:Gr) (aq:List Int):List Int:=aq.flatMap fun e=>[(g.at e).1,(g.at e).2]
theorem Ed {g:Gr} {l:List Int} {k:Nat} (hk:k<l.length):fW g (l.take (k+1))=fW g (l.take k)++[(g.at (l.getD k 0)).1,(g.at (l.getD k 0)).2]:=by
 unfold fW;rw[List.take_succ_eq_append_getElem hk,Qh]
 grind
theorem xQ (g:Gr):∀ l:List Int,(fW g l).length=2*l.length
 | []=>rfl
 | e :: l=>by
  have ih:=xQ g l;unfold fW at ih ⊢;rw[List.flatMap_cons,List.length_append,ih];simp only[List.length_cons,List.length_nil];omega
def l5 (g:Gr) (aq:List Int):Pt:=⟨tidy (fW g aq),aq⟩
end Plain
set_option maxRecDepth 100000 in
set_option maxHeartbeats 4000000 in
theorem KA (vg vl:Value) (g:Plain.Gr) (aq:List Int) (w:World) (yk:g.err=0) (hl:aq.length<=1024) (hes:∀ e∈aq,0<=e/\e<g.e.length) (hg:dJ w vg g) (he:al w vl aq) :
  Calls Tryz.prog 80 #[vg,vl] w fun e w'=>∃ v1 v2,e=.returned (.agg #[v1,v2])/\aj w' w.heap.size v1 (Plain.l5 g aq).v/\aj w' w.heap.size v2 aq/\(∀ j∈aE v1,j ∉ aE v2)/\ag [] w w':=by
 have Fm:=lh hes;have HG:=lh hg;have HE:=lh he;have iE:=lh (Plain.Gr.aA yk);obtain⟨eo,cap,rfl,-,hm,dK,aK⟩:=hg;have qZ:=lh aK;have fZ:=lh dK;obtain⟨lo,lc,rfl,hI,-,-⟩:=he;clear hes aK hI yk dK;have iQ:=lh (show ag [] w ((w.alloc (.cells #[.int .i64 g.n,.slice eo g.e.length cap] 24)).alloc (.cells #[.slice none 0 0,.slice none 0 0] 27)) from (show ag [] w ((w.alloc (.cells #[.int .i64 g.n,.slice eo g.e.length cap] 24)).alloc (.cells #[.slice none 0 0,.slice none 0 0] 27)) from (((ag.refl [] w).alloc _).alloc _)));have dk:=heap_alloc_new w (.cells #[.int .i64 g.n,.slice eo g.e.length cap] 24);replace dk:=(show ag [] (w.alloc (.cells #[.int .i64 g.n,.slice eo g.e.length cap] 24)) ((w.alloc (.cells #[.int .i64 g.n,.slice eo g.e.length cap] 24)).alloc (.cells #[.slice none 0 0,.slice none 0 0] 27)) from ((ag.refl [] (w.alloc (.cells #[.int .i64 g.n,.slice eo g.e.length cap] 24))).alloc _)).heap dk (by simp);have gX:=heap_alloc_new (w.alloc (.cells #[.int .i64 g.n,.slice eo g.e.length cap] 24)) (.cells #[.slice none 0 0,.slice none 0 0] 27);rw[show (w.alloc (.cells #[.int .i64 g.n,.slice eo g.e.length cap] 24)).heap.size=w.heap.size+1 by simp] at gX;have HX:=lh (fun (w2:World) (eh:ag [] ((w.alloc (.cells #[.int .i64 g.n,.slice eo g.e.length cap] 24)).alloc (.cells #[.slice none 0 0,.slice none 0 0] 27)) w2)=>(⟨eh.c ((cell_of_row _ _ 0 _ _ _ dk).trans rfl),eh.c ((cell_of_row _ _ 1 _ _ _ dk).trans rfl),eh.heap gX (by simp),by have hz:=eh.size;simpa using hz⟩:w2.cell? ⟨w.heap.size,0,none⟩=some (.int .i64 g.n)/\w2.cell? ⟨w.heap.size,1,none⟩=some (.slice eo g.e.length cap)/\w2.heap[w.heap.size+1]?=some (.cells #[.slice none 0 0,.slice none 0 0] 27 (0,0))/\w.heap.size+2<=w2.heap.size));clear dk gX;have Gc:=lh (show ((w.alloc (.cells #[.int .i64 g.n,.slice eo g.e.length cap] 24)).alloc (.cells #[.slice none 0 0,.slice none 0 0] 27)).heap.size=w.heap.size+2 by simp)
 go_enter Tryz.func80,Tryz.ntmps80
 go_wp2_with fail
 generalize ((w.alloc (.cells #[.int .i64 g.n,.slice eo g.e.length cap] 24)).alloc (.cells #[.slice none 0 0,.slice none 0 0] 27))=w1 at *;refine (yn _ aq _ (by omega) (HE.out.fresh iQ.out)).mono ?_;rintro e w3 ⟨v2,rfl,fh,cT⟩;obtain⟨o2,c2,rfl⟩:=fh.shape;have yH:=lh fh;have cU:=lh cT;clear fh cT;have Ew:=lh (heap_alloc_new w3 (.cells #[.slice none 0 0,.slice o2 aq.length c2] 27));have iO:=lh ((ag.refl [] w3).alloc (.cells #[.slice none 0 0,.slice o2 aq.length c2] 27));have ki:=lh (Plain.xQ g)
 go_wp2_with fail
 go_loopw [7,13] (fun _ iv wr=>∃ k:Nat,k<=aq.length/\iv=.int .i64 k/\∃ uo uc,wr.heap[w3.heap.size]?=some (.cells #[.slice uo (2*k) uc,.slice o2 aq.length c2] 27 (0,0))/\aj wr w3.heap.size (.slice uo (2*k) uc) (Plain.fW g (aq.take k))/\ag [] w3 wr) (fun _ iv _=>aq.length - (intOf iv).toNat)
 case atStart=>exact⟨0,Nat.zero_le _,rfl,none,0,Ew.out,eJ _ _,iO.out⟩
 case round =>
  obtain⟨k,hk,rfl,uo,uc,ho,hr,hc⟩:=hrel;have HO:=lh ho;have HR:=lh hr;have HC:=lh hc;have HW:=lh (iQ.out.t (cU.out.t hc));obtain⟨x0,x1,r8,-⟩:=HX.out wr (cU.out.t hc);have HR8:=lh r8;have o0:=(cell_of_row _ _ 0 _ _ _ ho).trans (show _=some (Qd uo (2*k) uc) from rfl);have o1:=(cell_of_row _ _ 1 _ _ _ ho).trans (show _=some (Qd o2 aq.length c2) from rfl);have f0:=bJ ho 0;have f1:=bJ ho 1;clear ho hr hc r8;by_cases aL:k<aq.length
  ·obtain⟨rb,iR,rfl,rc⟩:=al.cellAt HE.out aL
   have cz:=HW.out.c rc;have mf:=Fm.out _ (Plain.aQ aL);have oF:=lh (Plain.Ed (g:=g) aL);obtain⟨ei,tx⟩:∃ ei:Nat,aq.getD k 0=(ei:Int):=⟨(aq.getD k 0).toNat,by omega⟩;rw[tx] at cz mf oF;have lR:ei<g.e.length:=by omega
   obtain⟨eb,dO,rfl,gO,cY⟩:=qZ.out ei lR;obtain⟨It,Av⟩:=fZ.out ei lR;have c0:=HW.out.c gO;have c1:=HW.out.c cY;have dU:g.at (ei:Int)=g.ends ei:=by grind [Plain.Gr.at]
   rw[dU] at oF;obtain⟨x,hx⟩:∃ x,(g.ends ei).1=x:=⟨_,rfl⟩;obtain⟨y,hy⟩:∃ y,(g.ends ei).2=y:=⟨_,rfl⟩;rw[hx] at c0 It oF;rw[hy] at c1 Av oF;have O8:w3.heap.size ∉ aE (.slice uo (2*k) uc):=fun q=>by
    obtain⟨cs,r,hh⟩:=bR HR.out _ q;rw[HO.out] at hh;simp at hh
   have fX:∀ j∈aE (.slice uo (2*k) uc),w3.heap.size<=j:=fun j hj=>(HR.out.low j (by rw[<-HR.out.aE];exact hj)).1;have tV:=lh fX;have hSB:ag (aE (.slice uo (2*k) uc)) wr wr.drew:=(ag.refl _ wr).drew;have SX:w.heap.size ∉ aE (.slice uo (2*k) uc):=fun q=>by have:=fX _ q;have:=cU.out.size;have:=Gc.out;omega
   have RF:eb ∉ aE (.slice uo (2*k) uc):=fun q=>by have:=fX _ q;have:=cU.out.size;have:=Gc.out;have:=Qn w _ gO;simp at this;omega
   have asy:rb ∉ aE (.slice uo (2*k) uc):=fun q=>by have:=fX _ q;have:=cU.out.size;have:=Gc.out;have:=Qn w _ rc;simp at this;omega
   have nS:k<1024:=by omega
   have eik:ei<1024:=by have:=iE.out.2.2.1;have:=iE.out.1;omega
   clear rc mf tx gO cY dU hx hy fX
   go_wp2_with fail
   refine ar (ag (aE (.slice uo (2*k) uc)) wr) [0,1,2,3,4,5,6,7,8,9,10,11,12,13] (Way.line [0,1,2,3,4,5,6,7,8,9,10,11,12,13,14,15,16,17] .done) (by kernel_rfl) (by kernel_rfl) ?_;simp only[Way.line]
   repeat (refine ai (v:=?_) rfl (by rfl) (by rfl) (fun _ _ _ h=>h) hSB (fun w' aI=>?_) ?_;rotate_left;(focus (have gB:=aI.cell o0 (by first | exact O8 | exact SX | exact RF);have gQ:=aI.cell x1 (by first | exact O8 | exact SX | exact RF);have np:=aI.cell c0 (by first | exact O8 | exact SX | exact RF);have Hg:=aI.cell c1 (by first | exact O8 | exact SX | exact RF);clear aI;go_simp;try with_reducible rfl));simp only[Qu,Z1,Z2,Z3,Z4,Z5,Z6])
   refine au rfl (by rfl) (by rfl) (fun K hK=>?_);go_simp;have Rf:=lh ((nw wr It Av).fresh (ag.refl [] _).drew);refine hK.out _ _ (fun _=>hSB.alloc _) ?_;clear hK K
   try simp only[Qu,Z1,Z2,Z3,Z4,Z5,Z6]
   refine au rfl (by rfl) (by rfl) (fun K hK=>?_);simp only[List.getElem_toArray,List.getElem_cons_zero,List.getElem_cons_succ];have ca:ag [] wr (wr.alloc (.cells #[.int .i64 x,.int .i64 y] 3)).drew:=((ag.refl [] wr).alloc _).drew;have Eo:(Plain.fW g (aq.take k)).length=2*k:=by rw[ki.out,Qm];omega
   refine pU _ _ rfl (B:=w3.heap.size) (v:=.slice uo (2*k) uc) rfl rfl (HR.out.aD ca (by simp)) Rf.out (Nat.le_trans HC.out.size ca.size) (by grind) fun v' w7 r7 c7 f7=>?_;rw[<-oF.out] at r7;have R7:=lh r7;have C7:=lh c7;have CA:=lh ca;have Vk:(Plain.fW g (aq.take (k+1))).length=2*k+2:=by rw[ki.out,Qm];omega
   obtain⟨vo,vc,rfl⟩:=r7.shape;rw[Vk] at R7;refine hK.out _ _ (fun _=>(ca.mono (by simp)).trans c7 (fun j hj=>Qv hj)) ?_;have o7:=c7.cell (ca.c o0) O8;have g7:=c7.frozen (ca.c o0) (bJ (ca.heap HO.out (by simp)) 0) O8;have RJ:=lh (c7.heap (ca.heap HO.out (by simp)) O8);rw[Vk];clear hK K r7 c7 f7 ca Eo Vk
   try simp only[Qu,List.setIfInBounds_toArray,List.set_cons_zero,List.set_cons_succ]
   refine au rfl (by rfl) (by rfl) (fun K hK=>?_);go_simp;refine hK.out _ _ (fun h=>absurd h (Qe.1 (by kernel_rfl))) ?_;clear hK K
   try simp only[Qu,Z1,Z2,Z3,Z4,Z5,Z6]
   refine au rfl (by rfl) (by rfl) (fun K hK=>?_);go_simp;refine hK.out _ _ (fun h=>absurd h (Qe.1 (by kernel_rfl))) ?_;clear hK K
   try simp only[Qu,Z1,Z2,Z3,Z4,Z5,Z6]
   refine aC ?_;have aZ:ag [w3.heap.size] w7 (w7.setCell ⟨w3.heap.size,0,none⟩ (.slice vo (2*k+2) vc)):=by grind [ag.refl,ag.setCell]
   have SQ:=lh (heap_setCell_same RJ.out 0 (.slice vo (2*k+2) vc));have ajt:=lh (R7.out.aD aZ (fun b hb q=>by
    obtain⟨cs,r,hh⟩:=bR R7.out b (by rw[R7.out.aE];exact hb);rw[List.mem_singleton] at q;rw[q,RJ.out] at hh;simp at hh))
   have DB:=lh (show ag [] w3 (w7.setCell ⟨w3.heap.size,0,none⟩ (.slice vo (2*k+2) vc)) from ((HC.out.t CA.out).trans C7.out (fun j hj=>Qr (tV.out j hj))).trans aZ (fun j hj=>Qr (by grind)));clear aZ o7 g7 o0 o1 f0 f1 x0 x1 c0 c1 cz;generalize (w7.setCell ⟨w3.heap.size,0,none⟩ (.slice vo (2*k+2) vc))=w8 at *;go_wp2
   go_roundw
   case rel=>exact⟨k+1,by omega,by go_num,vo,vc,SQ.out,ajt.out,DB.out⟩
   case measure=>simp[intOf];omega
  have e:k=aq.length:=by omega
  subst e;have Eo:(Plain.fW g aq).length=2*aq.length:=ki.out aq;have HR9:=lh (show aj wr w3.heap.size (.slice uo (Plain.fW g aq).length uc) (Plain.fW g aq) by rw[Eo];have:=HR.out;rwa[List.take_length] at this);have Vd:=lh (show wr.heap[w3.heap.size]?=some (.cells #[.slice uo (Plain.fW g aq).length uc,.slice o2 aq.length c2] 27 (0,0)) by rw[Eo];exact HO.out);rw[<-Eo] at o0;have agF:=lh Eo;have wC:=lh (show (Plain.fW g aq).length<1000000000 by grind);clear HR HO hk aL Eo x0 x1;obtain⟨M,hM⟩:∃ M,Plain.fW g aq=M:=⟨_,rfl⟩;rw[hM] at HR9 Vd o0 agF wC;have HM:=lh hM;have O8:∀ (wx:World) (v:Value) (q:List Int),aj wx w3.heap.size v q->(∃ cs,wx.heap[w3.heap.size]?=some (.cells cs 27 (0,0)))->w3.heap.size ∉ v.ownBlock.toList:=fun _ _ _ h ⟨cs0,h0⟩ q=>by
   obtain⟨cs,r,hh⟩:=bR h _ (by rw[h.aE];exact q)
   grind
  have VS:=lh O8;clear hM O8
  go_wp2_with fail
  refine (rB _ M _ _ wC.out HR9.out).mono ?_;rintro e w5 ⟨rfl,pf,eO⟩;have hn5:=VS.out _ _ _ HR9.out ⟨_,Vd.out⟩;have o05:=eO.cell o0 hn5;have ZT:=lh (eO.heap Vd.out hn5);have AB:(M.mergeSort fun x y=>decide (x<=y)).length=M.length:=(List.mergeSort_perm _ _).length_eq;have HTY:=lh (show Go.Lib.compact (M.mergeSort fun x y=>decide (x<=y))=Plain.tidy M from rfl);have ga:=lh (show ag [] w3 w5 from HC.out.trans eO (fun b hb=>Qr (HR9.out.low b hb).1));obtain⟨S,hS⟩:∃ S,(M.mergeSort fun x y=>decide (x<=y))=S:=⟨_,rfl⟩;rw[hS] at AB pf HTY;have uk:=lh pf;have rn:=lh AB;clear pf eO hn5 AB hS o0 o1 f0 f1
  go_wp2_with fail
  refine (po _ S _ _ (by rw[rn.out];exact wC.out) uk.out).mono ?_;rintro e w6 ⟨v6,rfl,hr6,hc6⟩;rw[HTY.out] at hr6;have Pz:=VS.out _ _ _ uk.out ⟨_,ZT.out⟩;have Yq:=hc6.heap ZT.out Pz;have p06:=hc6.cell o05 Pz;have g06:=bJ Yq 0;have HO6:=lh Yq;have ky:=lh (show ag [] w3 w6 from ga.out.trans hc6 (fun b hb=>Qr (uk.out.low b hb).1));have O6:=lh hr6;obtain⟨o6,c6,rfl⟩:=hr6.shape;have zP:=VS.out _ _ _ hr6 ⟨_,Yq⟩;have aZ:ag [w3.heap.size] w6 (w6.setCell ⟨w3.heap.size,0,none⟩ (.slice o6 (Plain.tidy M).length c6)):=by grind [ag.refl,ag.setCell]
  have Tv:=heap_setCell_same Yq 0 (.slice o6 (Plain.tidy M).length c6);have OT:=lh (hr6.aD aZ (fun b hb q=>zP (by grind)));have pX:=lh (show ag [] w3 (w6.setCell ⟨w3.heap.size,0,none⟩ (.slice o6 (Plain.tidy M).length c6)) from ky.out.trans aZ (fun j hj=>Qr (by grind)));have RJ:=lh Tv;have p16:=(cell_of_row _ _ 1 _ _ _ Yq).trans (show _=some (Qd o2 aq.length c2) from rfl);obtain⟨-,-,r86,-⟩:=HX.out w6 (cU.out.t ky.out);have y06:=(cell_of_row _ _ 0 _ _ _ r86).trans (show _=some (Qd none 0 0) from rfl);have y16:=(cell_of_row _ _ 1 _ _ _ r86).trans (show _=some (Qd none 0 0) from rfl);have g16:=bJ r86 0;have g26:=bJ r86 1;have aqS:¬ w3.heap.size=w.heap.size+1:=fun q=>by have:=cU.out.size;have:=Gc.out;omega
  have A6:¬ w.heap.size+1=w3.heap.size:=by grind
  clear hr6 hc6 Yq zP aZ Tv Pz o05;obtain⟨-,-,r87,-⟩:=HX.out (w6.setCell ⟨w3.heap.size,0,none⟩ (.slice o6 (Plain.tidy M).length c6)) (cU.out.t pX.out);have EM:ag [w.heap.size+1] (w6.setCell ⟨w3.heap.size,0,none⟩ (.slice o6 (Plain.tidy M).length c6)) (((w6.setCell ⟨w3.heap.size,0,none⟩ (.slice o6 (Plain.tidy M).length c6)).setCell ⟨w.heap.size+1,0,none⟩ (.slice o6 (Plain.tidy M).length c6)).setCell ⟨w.heap.size+1,1,none⟩ (.slice o2 aq.length c2)):=by grind [ag.refl,ag.setCell,Plain.tidy]
  have jw:=heap_setCell_same (heap_setCell_same r87 0 (.slice o6 (Plain.tidy M).length c6)) 1 (.slice o2 aq.length c2);have q0:=(cell_of_row _ _ 0 _ _ _ jw).trans (show _=some (Qd o6 (Plain.tidy M).length c6) from rfl);have q1:=(cell_of_row _ _ 1 _ _ _ jw).trans (show _=some (Qd o2 aq.length c2) from rfl);have ZS:=lh q0;have UM:=lh q1;have Ol:∀ {v:Value} {q:List Int} {B:Nat},aj (w6.setCell ⟨w3.heap.size,0,none⟩ (.slice o6 (Plain.tidy M).length c6)) B v q->∀ b∈v.ownBlock.toList,b ∉ [w.heap.size+1]:=fun h b hb e=>by
   obtain⟨cs,r,hh⟩:=bR h b (by rw[h.aE];exact hb)
   grind
  have aif:w.heap.size+2<=w3.heap.size:=by have:=cU.out.size;have:=Gc.out;omega
  have XF:=lh ((OT.out.aD EM (Ol OT.out)).base (show w.heap.size<=w3.heap.size by omega));have fh:=yH.out.aD pX.out (by simp);have Aw:=lh ((fh.aD EM (Ol fh)).base (show w.heap.size<=w1.heap.size by have:=Gc.out;omega));have TH:=lh (show ∀ j∈aE (.slice o6 (Plain.tidy M).length c6),j ∉ aE (.slice o2 aq.length c2) from fun j hj q=>by
   have h1:=(OT.out.low j (by rw[<-OT.out.aE];exact hj)).1;have h2:=(yH.out.low j (by rw[<-yH.out.aE];exact q)).2;omega)
  have qh:=lh (show ag [] w _ from (iQ.out.t (cU.out.t pX.out)).trans EM (fun j hj=>Qr (by grind)));have HMT:=lh (show (Plain.l5 g aq).v=Plain.tidy M by show Plain.tidy (Plain.fW g aq)=_;rw[HM.out]);clear q0 q1 EM jw Ol fh aif r87;go_wp2;refine bodyPost_ret (v:=.agg #[.slice o6 (Plain.tidy M).length c6,.slice o2 aq.length c2]) (by have h0:=ZS.out;have h1:=UM.out;simp[results,Tryz.results80,go_sem,h0,h1]) rfl ?_;rw[HMT.out];exact⟨_,_,rfl,XF.out,Aw.out,TH.out,qh.out⟩
end Go.Proofs.YtoiflofhcmjpoaaGreat
