/- draw's step, whole: a sketch stays what it is, and less is left. No program here. -/
import Derived.Test.YtoiflofhcmjpoaaGreatF9SkA
import Derived.Test.YtoiflofhcmjpoaaGreatF9Calm2
import Derived.Shelf.SlIterI.Sorted
import Derived.Ground.GgzProg
set_option maxRecDepth 100000
set_option maxHeartbeats 4000000
open Go.Value renaming slice→Qa
open List renaming mem_map→Qb,count→Qc,mergeSort_perm→Qd,count_append→Qf,perm_ext_iff_of_nodup→Qg,mem_append→Qi,take_succ_eq_append_getElem→Qj,mem_cons_of_mem→Qk,mem_filter→Ql,flatMap_append→Qm,perm_iff_count→Qn,count_pos_iff→Qo,exists_mem_of_ne_nil→Qp,nodup_append→Qq,length_take→Qs,mem_flatten→Qt,eq_nil_or_concat→Qv,concat_eq_append→Qw,nodup_iff_count→Qx,mem_singleton→Qy,flatten_cons→Qz,mem_flatMap→QB,take_length→QC,any_eq_true→QD
open Bool renaming eq_false_iff→Qe,eq_iff_iff→QE
open Go.Act renaming put→Qh
open Or renaming inr→Qr,inl→QA
open Go.World renaming block_lt_of_cell?→Qu
open Nat renaming zero_le→QF
namespace Go.Proofs.YtoiflofhcmjpoaaGreat.Plain
variable {b p:Pt}
def Sk.left (s:Sk):Nat:=(s.rest.flatMap (·.ag)).length
theorem Uq {g:Gr} {s:Sk} {aa:List (List Int)} {i:Nat} (nr:b.err g=0) (hS:cg g b) (h:tV g b s p aa) (hi:i<s.rest.length) (hf:(s.rest.getD i ⟨[],[],[]⟩).ak≠[]) :
  ∃ p' gA,tV g b (s.put g b.v i) p' gA/\(s.put g b.v i).left<s.left:=by
 have jQ:=Pt.ax nr;have fR:=Pt.ax h.ak.pe;obtain⟨hsp,Sg⟩:=kR hi (⟨[],[],[]⟩:bh);unfold Sk.put;dsimp only;generalize fs:s.rest.getD i ⟨[],[],[]⟩=c at *;generalize Ep:s.rest.take i=R1 at *;generalize hR2:s.rest.drop (i+1)=R2 at *;have kB:c∈s.rest:=by rw[hsp];simp
 have hc:=h.mL c kB;have jl:=h.part;have A8:s.rest.flatMap (·.ag)=R1.flatMap (·.ag)++(c.ag++R2.flatMap (·.ag)):=by
  grind
 rw[A8] at jl;have gp:=(jl.nodup_iff).2 jQ.en;have ot:∀ x,Qc x p.e+(Qc x (R1.flatMap (·.ag))+(Qc x c.ag+Qc x (R2.flatMap (·.ag))))<=1:=λx=>by
  have:=Qx.1 gp x
  grind
 have qw:c.ag.Nodup:=Qx.2 λx=>by have:=ot x;omega
 have TY:∀ e∈c.ag,e ∉ p.e:=λe h1 h2=>by
  grind
 have hcR:∀ e∈c.ag,∀ r,r∈R1\/r∈R2->e ∉ r.ag:=λe h1 r hr h2=>by
  have:=ot e;have:=Qo.2 h1;rcases hr with hr | hr
  ·have:=Qo.2 (show e∈R1.flatMap (·.ag) from QB.2 ⟨r,hr,h2⟩)
   omega
  have:=Qo.2 (show e∈R2.flatMap (·.ag) from QB.2 ⟨r,hr,h2⟩);omega
 have Wm:aD g ⟨b.v,c.ag⟩:=⟨jQ.vn,qw,jQ.vr,λe he=>jQ.er e (hc.sub e he),λe he=>jQ.ends e (hc.sub e he)⟩
 -- the ends
 obtain⟨a,z0,m,jc⟩:∃ a z0 m,c.ends=a :: z0 :: m:=by
  have:=hc.two
  match hL:c.ends with
  | []=>rw[hL] at this;simp at this
  | [_]=>rw[hL] at this;simp at this
  | a :: z0 :: m=>exact⟨a,z0,m,rfl⟩
 have lJ:(a :: z0 :: m).Nodup:=by rw[<-jc,hc.ends];exact gR g s.on c.ag
 have Pn:a∈c.ends:=by rw[jc];simp
 have PM:z0∈c.ends:=by rw[jc];simp
 have UP:=Pn;have kA:=PM;rw[hc.ends] at UP kA;obtain⟨YX,e0,lZ,AM⟩:=bB.1 UP;obtain⟨Ur,e1,AO,Dx⟩:=bB.1 kA;have KS:z0≠a:=λq=>by rw[q] at lJ;simp at lJ
 have rH:∀ d∈(⟨b.v,c.ag⟩:Pt).ah,0<=d:=λd hd=>by have:=jQ.er _ (hc.sub _ (au.1 hd));omega
 obtain⟨z,qu⟩:=Ar (g:=g) (on:=s.on) Wm rH hc.sT lZ AM AO Dx Ur KS;have XX:c.ends.getD 0 0=a:=by rw[jc];rfl
 rw[XX];generalize hw0:mU g s.on ⟨b.v,c.ag⟩ a=w at *;have Ix:=qu.AJ h.on YX TY;obtain⟨Du⟩:w≠[]/\True:=⟨λq=>qu.ne (by have:=qu.link;rw[q] at this;exact this),trivial⟩;have Uy:g.head (w.getLastD 0)=z:=by
  rcases Qv w with r | ⟨m,e,r⟩
  ·exact absurd r Du
  rw[Qw] at r;have:=qu.link;rw[r] at this ⊢;rw[List.getLastD_eq_getLast?];simpa using gO this
 rw[Uy];have Ih:∀ d∈w,d / 2∈c.ag:=λd hd=>au.1 (qu.sub d hd)
 -- z is an end of the scrap
 have DA:z∈c.ends:=by
  rcases Qv w with r | ⟨m,e,r⟩
  ·exact absurd r Du
  rw[Qw] at r;have h1:=qu.link;rw[r] at h1;rw[hc.ends];have h2:=eM g e;rw[gO h1] at h2;exact bB.2 ⟨qu.oz,e / 2,Ih e (by rw[r];simp),h2.2⟩
 -- the xt
 obtain⟨f,fl,uB⟩:∃ f fl,c.ak=f :: fl:=by
  cases hL:c.ak with
  | nil=>exact absurd hL hf
  | cons f fl=>exact⟨f,fl,rfl⟩
 have Xo:c.ak.getD 0 0=f:=by rw[uB];rfl
 rw[Xo];obtain⟨Ry,yg,VN⟩:=(hc.PJ f).1 (by grind);obtain⟨hFs,-⟩:=kR yg ([]:List Int);have hold:s.ak.getD f.toNat []=bp s.ak f:=rfl;rw[hold] at hFs;generalize FM:bp s.ak f=old at *;generalize CU:s.ak.take f.toNat=F1 at *;generalize Vw:s.ak.drop (f.toNat+1)=F2 at *;have auI:F1.length=f.toNat:=by rw[<-CU,Qs];omega
 obtain⟨x,y,A,B,U,V,c1,c2,c3,c4,c5⟩:=rh (g:=g) (old:=old) (w:=w) (df.1 (VN a Pn)) (df.1 (VN z DA)) qu.ne;rw[c5];obtain⟨f1,f2,f3,f4⟩:=Gn (F:=s.ak) Ry yg (x :: A++twins w) (w++y :: B);generalize Xq:s.ak.set f.toNat (x :: A++twins w)++[w++y :: B]=F' at *;have aoY:F'.Perm ((x :: A++twins w) :: (w++y :: B) :: (F1++F2)):=by
  have e:s.ak.set f.toNat (x :: A++twins w)=F1++(x :: A++twins w) :: F2:=by
   grind
  rw[<-Xq,e];refine (List.perm_append_comm (l₁:=F1++(x :: A++twins w) :: F2) (l₂:=[w++y :: B])).trans ?_
  grind
 -- the part
 have DQ:∀ v,eX g s.on w v=true↔v∈p.v\/v∈w.map g.tail:=λv=>by rw[Hj,h.on]
 have LX:∀ v∈w.map g.tail,v∈b.v:=λv hv=>by
  obtain⟨d,hd,rfl⟩:=Qb.1 hv;exact (Wm.aP (qu.sub d hd)).1
 have Sv:∀ e∈p.e,e∈b.e:=λe he=>jl.mem_iff.1 (List.mem_append_left _ he);obtain⟨q,hqd⟩:∃ q:Pt,q=⟨b.v.filter (eX g s.on w),b.e.filter λe=>decide (e∈p.e) || decide (e∈w.map (· / 2))⟩:=⟨_,rfl⟩;have DH:∀ v,v∈q.v↔v∈p.v\/v∈w.map g.tail:=λv=>by
  rw[hqd,Ql,DQ];exact⟨λk=>k.2,λk=>⟨k.elim (h.sub v) (LX v),k⟩⟩
 have Ut:∀ e,e∈q.e↔e∈p.e\/e∈w.map (· / 2):=λe=>by
  rw[hqd,Ql,Bool.or_eq_true,decide_eq_true_iff,decide_eq_true_iff];refine⟨λk=>k.2,λk=>⟨k.elim (Sv e) λk=>?_,k⟩⟩;obtain⟨d,hd,rfl⟩:=Qb.1 k
  grind
 obtain⟨cc,ll,lu⟩:=Ix.cons;have acg:∀ d∈w,g.head d∈w.map g.tail\/g.head d=z:=λd hd=>by
  have h1:=qu.link;rw[lu] at h1;have h2:=eh h1;have h3:g.head d∈(cc :: ll).map g.head:=by rw[<-lu];exact Qb.2 ⟨d,hd,rfl⟩
  all_goals grind
 have Tj:∀ d∈w,g.tail d∈q.v/\g.head d∈q.v:=λd hd=>⟨(DH _).2 (Qr (Qb.2 ⟨d,hd,rfl⟩)),(DH _).2 ((acg d hd).elim Qr λk=>QA (by rw[k];exact Ix.zv))⟩;have Lx:q.err g=0:=by
  obtain⟨g1,g2,g3,-⟩:=Pt.aF nr;refine Pt.zb g1 (by grind [fI]) (by grind [fI]) λe he=>?_;have hb:=jQ.er e (by
   have:=he;rw[hqd] at this;exact (Ql.1 this).1)
  show (g.at e).1∈q.v/\(g.at e).2∈q.v;rcases (Ut e).1 he with k | k
  ·exact⟨(DH _).2 (QA (fR.ends e k).1),(DH _).2 (QA (fR.ends e k).2)⟩
  obtain⟨d,hd,rfl⟩:=Qb.1 k;obtain⟨k1,k2⟩:=Tj d hd;rcases iO g d with ⟨j1,j2⟩ | ⟨j1,j2⟩
  all_goals grind
 have Hw:Jd g p w q:=⟨Lx,DH,Ut⟩;have Eo:=Pt.ax Lx
 -- the ak
 have Xd:cQ g p aa ((x :: A++y :: B) :: (F1++F2)):=by
  rw[<-c2];refine cQ.yA ?_;rw[<-c1];refine h.ak.perm ?_;rw[hFs];exact List.perm_middle
 have J0:x∈p.ah/\y∈p.ah:=by
  have k:∀ d∈x :: A++y :: B,d∈p.ah:=λd hd=>Xd.all.mem_iff.1 (by grind)
  grind
 obtain⟨t1,t2⟩:=xf Xd Ix Hw J0.1 c3 J0.2 c4;have hfq:=Xd.put Ix Hw t1 t2 (List.Perm.refl _) aoY c3 c4;have jn:∀ v,eX g s.on w v=false->s.on v=false:=λv hv=>Qe.2 λr=>by
  have:=(DQ v).2 (QA ((h.on v).1 r))
  grind
 have ahm:∀ v,s.on v=true->(dM g (bp F' f) v=true->dM g (bp s.ak f) v=true)/\(dM g (bp F' (s.ak.length:Int)) v=true->dM g (bp s.ak f) v=true):=λv hv=>by
  rw[f2,f3,FM];exact Vv Ix c1 c2 c3 c4 ((h.on v).1 hv)
 have hwo:a8 c.ag w=c.ag.filter λe=>decide (e ∉ w.map (· / 2)):=by
  refine List.filter_congr λe _=>?_;have h1:=cU (E:=[e]) (l:=w) (e:=e);unfold a8 at h1;rw[Ql] at h1;rw[QE,decide_eq_true_iff,Qb]
  all_goals grind
 have uP:∀ x,Qc x c.ag=Qc x (w.map (· / 2))+Qc x (a8 c.ag w):=λx=>by
  have Pq:(w.map (· / 2)++a8 c.ag w).Perm c.ag:=by
   refine (Qg ?_ qw).2 λu=>?_
   ·rw[Qq]
    refine⟨Ix.en,qw.filter _,λu hu v hv e=>?_⟩
    grind
   rw[Qi,cU];constructor
   ·rintro (k | k)
    ·obtain⟨d,hd,rfl⟩:=Qb.1 k;exact Ih d hd
    exact k.1
   all_goals grind
  grind
 have ao1:∀ x,Qc x q.e=Qc x p.e+Qc x (w.map (· / 2)):=λx=>by
  have Pq:q.e.Perm (p.e++w.map (· / 2)):=by
   refine (Qg Eo.en ?_).2 λu=>by rw[Ut,Qi]
   rw[Qq];refine⟨fR.en,Ix.en,λu hu v hv e=>?_⟩;subst e;obtain⟨d,hd,rfl⟩:=Qb.1 hv
   grind
  grind
 have hsE:=ns (g:=g) (on:=eX g s.on w) (F:=F') (ks:=[f,(s.ak.length:Int)]) (E:=a8 c.ag w) (qw.filter _);have aeW:∀ x,Qc x (((s.rest.eraseIdx i).map (fH g F' f s.ak.length)++cw g (eX g s.on w) F' (a8 c.ag w) [f,(s.ak.length:Int)]).flatMap (·.ag))=Qc x (R1.flatMap (·.ag))+Qc x (R2.flatMap (·.ag))+Qc x (a8 c.ag w):=λx=>by
  rw[Qm,DI,Sg,Qm,Qf,Qf,hsE.count_eq]
 refine⟨q,gC g p q aa w a z x y,⟨hfq,λv=>(DQ v).trans (DH v).symm,λv hv=>?_,?_,?_,λr hr=>?_⟩,?_⟩
 ·grind
 ·obtain⟨e,he⟩:=Qp _ h.drawn
  grind
 ·rw[Qn]
  intro x;rw[Qf,aeW,ao1,<-jl.count_eq];simp only[Qf]
  grind
 ·rcases Qi.1 hr with k | k
  ·obtain⟨r0,oR,rfl⟩:=Qb.1 k
   rw[Sg] at oR;have hrR:r0∈R1\/r0∈R2:=Qi.1 oR;have Nx:r0∈s.rest:=by
    grind
   have fD:=h.mL r0 Nx;refine MY fD jn (λe he v qB hv=>Qe.2 λj=>?_) Ry yg f1 f4 ahm;rcases (DQ v).1 j with j | j
   ·rw[(h.on v).2 j] at hv;cases hv
   obtain⟨d,hd,rfl⟩:=Qb.1 j;exact hcR _ (Ih d hd) r0 hrR (fD.shut e he _ (hc.sub _ (Ih d hd)) ⟨_,hv,qB,(eM g d).1⟩)
  refine Nf hS hc Eo ?_ (λv=>(DQ v).trans (DH v).symm) jn (λv hv=>?_) (λe he=>?_) (λd hd=>⟨Ih d hd,(DQ _).2 ((DH _).1 (Tj d hd).1),(DQ _).2 ((DH _).1 (Tj d hd).2)⟩) Du qw (λe he=>?_) ⟨Ry,by omega⟩ (by grind) (λj j0 jk jf u hu=>?_) k
  ·obtain⟨e,he⟩:=Qp _ h.drawn
   grind
  ·grind
  ·grind
  ·intro r
   obtain⟨k1,k2⟩:=cU.1 he;rcases (Ut e).1 r with j | j
   ·exact TY e k1 j
   obtain⟨d,hd,e'⟩:=Qb.1 j;exact k2 d hd e'
  rw[f1 j j0 (by omega) jf] at hu;obtain⟨d,hd,e⟩:=df.1 hu;have Ct:d∈p.ah:=h.ak.all.mem_iff.1 (Qt.2 ⟨_,by
   unfold bp;rw[show s.ak.getD j.toNat []=s.ak[j.toNat]'(by omega) by simp[List.getD,show j.toNat<s.ak.length by omega]];exact List.getElem_mem _,hd⟩)
  rw[<-e];exact (h.on _).2 (fR.aP Ct).1
 unfold Sk.left;have hA:(((s.rest.eraseIdx i).map (fH g F' f s.ak.length)++cw g (eX g s.on w) F' (a8 c.ag w) [f,(s.ak.length:Int)]).flatMap (·.ag)).Perm (R1.flatMap (·.ag)++R2.flatMap (·.ag)++a8 c.ag w):=Qn.2 λx=>by
  grind
 have hB:c.ag.Perm (w.map (· / 2)++a8 c.ag w):=Qn.2 λx=>by rw[uP,Qf]
 have h1:=hA.length_eq;have h2:=hB.length_eq
 grind
end Go.Proofs.YtoiflofhcmjpoaaGreat.Plain
-- READS ONLY
namespace Go.Proofs.YtoiflofhcmjpoaaGreat
open Plain
open Go.RowKit Go.Maps
namespace Plain
def cY (g:Gr) (ag:List Int):List Int:=ag.flatMap λe=>[(g.at e).1,(g.at e).2]
theorem rU {g:Gr} {l:List Int} {k:Nat} (hk:k<l.length):cY g (l.take (k+1))=cY g (l.take k)++[(g.at (l.getD k 0)).1,(g.at (l.getD k 0)).2]:=by
 unfold cY;rw[Qj hk,Qm]
 grind
theorem qp (g:Gr):∀ l:List Int,(cY g l).length=2*l.length
 | []=>rfl
 | e :: l=>by
  have ih:=qp g l;unfold cY at ih ⊢;rw[List.flatMap_cons,List.length_append,ih];simp only[List.length_cons,List.length_nil];omega
def dO (g:Gr) (ag:List Int):Pt:=⟨tidy (cY g ag),ag⟩
end Plain
theorem OI (vg vl:Value) (g:Plain.Gr) (ag:List Int) (w:World) (jw:g.err=0) (hl:ag.length<=1024) (hes:∀ e∈ag,0<=e/\e<g.e.length) (hg:cA w vg g) (he:aI w vl ag) :
  Calls Tryz.prog 80 #[vg,vl] w λe w'=>∃ v1 v2,e=.returned (.agg #[v1,v2])/\aw w' w.heap.size v1 (dO g ag).v/\aw w' w.heap.size v2 ag/\(∀ j∈aC v1,j ∉ aC v2)/\ai [] w w':=by
 have AE:=lh hes;have HG:=lh hg;have HE:=lh he;have fB:=lh (Plain.Gr.aF jw);obtain⟨eo,cap,rfl,-,hm,fx,aS⟩:=hg;have oe:=lh aS;have iL:=lh fx;obtain⟨lo,lc,rfl,hI,-,-⟩:=he;clear hes aS hI jw fx;have gJ:=lh (show ai [] w ((w.alloc (.cells #[.int .i64 g.n,.slice eo g.e.length cap] 24)).alloc (.cells #[.slice none 0 0,.slice none 0 0] 27)) from (show ai [] w ((w.alloc (.cells #[.int .i64 g.n,.slice eo g.e.length cap] 24)).alloc (.cells #[.slice none 0 0,.slice none 0 0] 27)) from (((ai.refl [] w).alloc _).alloc _)));have cf:=heap_alloc_new w (.cells #[.int .i64 g.n,.slice eo g.e.length cap] 24);replace cf:=(show ai [] (w.alloc (.cells #[.int .i64 g.n,.slice eo g.e.length cap] 24)) ((w.alloc (.cells #[.int .i64 g.n,.slice eo g.e.length cap] 24)).alloc (.cells #[.slice none 0 0,.slice none 0 0] 27)) from ((ai.refl [] (w.alloc (.cells #[.int .i64 g.n,.slice eo g.e.length cap] 24))).alloc _)).heap cf (by simp);have ig:=heap_alloc_new (w.alloc (.cells #[.int .i64 g.n,.slice eo g.e.length cap] 24)) (.cells #[.slice none 0 0,.slice none 0 0] 27);rw[show (w.alloc (.cells #[.int .i64 g.n,.slice eo g.e.length cap] 24)).heap.size=w.heap.size+1 by simp] at ig;have HX:=lh (λ(w2:World) (dN:ai [] ((w.alloc (.cells #[.int .i64 g.n,.slice eo g.e.length cap] 24)).alloc (.cells #[.slice none 0 0,.slice none 0 0] 27)) w2)=>(⟨dN.c ((cell_of_row _ _ 0 _ _ _ cf).trans rfl),dN.c ((cell_of_row _ _ 1 _ _ _ cf).trans rfl),dN.heap ig (by simp),by have hz:=dN.size;simpa using hz⟩:w2.cell? ⟨w.heap.size,0,none⟩=some (.int .i64 g.n)/\w2.cell? ⟨w.heap.size,1,none⟩=some (.slice eo g.e.length cap)/\w2.heap[w.heap.size+1]?=some (.cells #[.slice none 0 0,.slice none 0 0] 27 (0,0))/\w.heap.size+2<=w2.heap.size));clear cf ig;have xJ:=lh (show ((w.alloc (.cells #[.int .i64 g.n,.slice eo g.e.length cap] 24)).alloc (.cells #[.slice none 0 0,.slice none 0 0] 27)).heap.size=w.heap.size+2 by simp);go_enter Tryz.func80,Tryz.ntmps80;go_wp2_with fail;generalize ((w.alloc (.cells #[.int .i64 g.n,.slice eo g.e.length cap] 24)).alloc (.cells #[.slice none 0 0,.slice none 0 0] 27))=w1 at *;refine (BI _ ag _ (by omega) (HE.out.fresh gJ.out)).mono ?_;rintro e w3 ⟨v2,rfl,cD,dK⟩;obtain⟨o2,c2,rfl⟩:=cD.shape;have Bp:=lh cD;have b8:=lh dK;clear cD dK;have GN:=lh (heap_alloc_new w3 (.cells #[.slice none 0 0,.slice o2 ag.length c2] 27));have eW:=lh ((ai.refl [] w3).alloc (.cells #[.slice none 0 0,.slice o2 ag.length c2] 27));have nk:=lh (qp g);go_wp2_with fail;go_loopw [7,13] (λ_ iv wr=>∃ k:Nat,k<=ag.length/\iv=.int .i64 k/\∃ uo uc,wr.heap[w3.heap.size]?=some (.cells #[.slice uo (2*k) uc,.slice o2 ag.length c2] 27 (0,0))/\aw wr w3.heap.size (.slice uo (2*k) uc) (cY g (ag.take k))/\ai [] w3 wr) (λ_ iv _=>ag.length - (intOf iv).toNat);case atStart=>exact⟨0,QF _,rfl,none,0,GN.out,da _ _,eW.out⟩
 case round =>
  obtain⟨k,hk,rfl,uo,uc,ho,hr,hc⟩:=hrel;have HO:=lh ho;have HR:=lh hr;have HC:=lh hc;have HW:=lh (gJ.out.t (b8.out.t hc));obtain⟨x0,x1,r8,-⟩:=HX.out wr (b8.out.t hc);have HR8:=lh r8;have o0:=(cell_of_row _ _ 0 _ _ _ ho).trans (show _=some (Qa uo (2*k) uc) from rfl);have o1:=(cell_of_row _ _ 1 _ _ _ ho).trans (show _=some (Qa o2 ag.length c2) from rfl);have f0:=bE ho 0;have f1:=bE ho 1;clear ho hr hc r8;by_cases aW:k<ag.length
  ·obtain⟨rb,sy,rfl,rc⟩:=aI.cellAt HE.out aW
   have bX:=HW.out.c rc;have qT:=AE.out _ (aQ aW);have AK:=lh (rU (g:=g) aW);obtain⟨ei,mN⟩:∃ ei:Nat,ag.getD k 0=(ei:Int):=⟨(ag.getD k 0).toNat,by omega⟩;rw[mN] at bX qT AK;have iM:ei<g.e.length:=by omega
   obtain⟨eb,cR,rfl,fs,dD⟩:=oe.out ei iM;obtain⟨I7,sS⟩:=iL.out ei iM;have c0:=HW.out.c fs;have c1:=HW.out.c dD;have eJ:g.at (ei:Int)=g.ends ei:=by grind [Plain.Gr.at]
   rw[eJ] at AK;obtain⟨x,hx⟩:∃ x,(g.ends ei).1=x:=⟨_,rfl⟩;obtain⟨y,hy⟩:∃ y,(g.ends ei).2=y:=⟨_,rfl⟩;rw[hx] at c0 I7 AK;rw[hy] at c1 sS AK;have Em:w3.heap.size ∉ aC (.slice uo (2*k) uc):=λq=>by
    obtain⟨cs,r,hh⟩:=bu HR.out _ q;rw[HO.out] at hh;simp at hh
   have jY:∀ j∈aC (.slice uo (2*k) uc),w3.heap.size<=j:=λj hj=>(HR.out.low j (by rw[<-HR.out.aC];exact hj)).1;have Dn:=lh jY;have hSB:ai (aC (.slice uo (2*k) uc)) wr wr.drew:=(ai.refl _ wr).drew;have A5:w.heap.size ∉ aC (.slice uo (2*k) uc):=λq=>by have:=jY _ q;have:=b8.out.size;have:=xJ.out;omega
   have Bs:eb ∉ aC (.slice uo (2*k) uc):=λq=>by have:=jY _ q;have:=b8.out.size;have:=xJ.out;have:=Qu w _ fs;simp at this;omega
   have ayr:rb ∉ aC (.slice uo (2*k) uc):=λq=>by have:=jY _ q;have:=b8.out.size;have:=xJ.out;have:=Qu w _ rc;simp at this;omega
   have rI:k<1024:=by omega
   have eik:ei<1024:=by have:=fB.out.2.2.1;have:=fB.out.1;omega
   clear rc qT mN fs dD eJ hx hy jY;go_wp2_with fail;refine al (ai (aC (.slice uo (2*k) uc)) wr) [0,1,2,3,4,5,6,7,8,9,10,11,12,13] (Way.line [0,1,2,3,4,5,6,7,8,9,10,11,12,13,14,15,16,17] .done) (by kernel_rfl) (by kernel_rfl) ?_;simp only[Way.line]
   repeat (refine aj (v:=?_) rfl (by rfl) (by rfl) (λ_ _ _ h=>h) hSB (λw' aB=>?_) ?_;rotate_left;(focus (have fE:=aB.cell o0 (by first | exact Em | exact A5 | exact Bs);have fV:=aB.cell x1 (by first | exact Em | exact A5 | exact Bs);have kD:=aB.cell c0 (by first | exact Em | exact A5 | exact Bs);have tq:=aB.cell c1 (by first | exact Em | exact A5 | exact Bs);clear aB;go_simp;try with_reducible rfl));simp only[Qh,Z1,Z2,Z3,Z4,Z5,Z6])
   refine aq rfl (by rfl) (by rfl) (λK hK=>?_);go_simp;have B6:=lh ((xP wr I7 sS).fresh (ai.refl [] _).drew);refine hK.out _ _ (λ_=>hSB.alloc _) ?_;clear hK K;try simp only[Qh,Z1,Z2,Z3,Z4,Z5,Z6]
   refine aq rfl (by rfl) (by rfl) (λK hK=>?_);simp only[List.getElem_toArray,List.getElem_cons_zero,List.getElem_cons_succ];have ca:ai [] wr (wr.alloc (.cells #[.int .i64 x,.int .i64 y] 3)).drew:=((ai.refl [] wr).alloc _).drew;have IS:(cY g (ag.take k)).length=2*k:=by rw[nk.out,Qs];omega
   refine iZ _ _ rfl (B:=w3.heap.size) (v:=.slice uo (2*k) uc) rfl rfl (HR.out.aL ca (by simp)) B6.out (Nat.le_trans HC.out.size ca.size) (by grind) λv' w7 r7 c7 f7=>?_;rw[<-AK.out] at r7;have R7:=lh r7;have C7:=lh c7;have CA:=lh ca;have aag:(cY g (ag.take (k+1))).length=2*k+2:=by rw[nk.out,Qs];omega
   obtain⟨vo,vc,rfl⟩:=r7.shape;rw[aag] at R7;refine hK.out _ _ (λ_=>(ca.mono (by simp)).trans c7 (λj hj=>QA hj)) ?_;have o7:=c7.cell (ca.c o0) Em;have g7:=c7.frozen (ca.c o0) (bE (ca.heap HO.out (by simp)) 0) Em;have Br:=lh (c7.heap (ca.heap HO.out (by simp)) Em);rw[aag];clear hK K r7 c7 f7 ca IS aag;try simp only[Qh,List.setIfInBounds_toArray,List.set_cons_zero,List.set_cons_succ]
   refine aq rfl (by rfl) (by rfl) (λK hK=>?_);go_simp;refine hK.out _ _ (λh=>absurd h (Qe.1 (by kernel_rfl))) ?_;clear hK K;try simp only[Qh,Z1,Z2,Z3,Z4,Z5,Z6]
   refine aq rfl (by rfl) (by rfl) (λK hK=>?_);go_simp;refine hK.out _ _ (λh=>absurd h (Qe.1 (by kernel_rfl))) ?_;clear hK K;try simp only[Qh,Z1,Z2,Z3,Z4,Z5,Z6]
   refine ar ?_;have br:ai [w3.heap.size] w7 (w7.setCell ⟨w3.heap.size,0,none⟩ (.slice vo (2*k+2) vc)):=by grind [ai.refl,ai.setCell]
   have HO8:=lh (heap_setCell_same Br.out 0 (.slice vo (2*k+2) vc));have am0:=lh (R7.out.aL br (λb hb q=>by
    obtain⟨cs,r,hh⟩:=bu R7.out b (by rw[R7.out.aC];exact hb);rw[Qy] at q;rw[q,Br.out] at hh;simp at hh))
   have DG:=lh (show ai [] w3 (w7.setCell ⟨w3.heap.size,0,none⟩ (.slice vo (2*k+2) vc)) from ((HC.out.t CA.out).trans C7.out (λj hj=>Qr (Dn.out j hj))).trans br (λj hj=>Qr (by grind)));clear br o7 g7 o0 o1 f0 f1 x0 x1 c0 c1 bX;generalize (w7.setCell ⟨w3.heap.size,0,none⟩ (.slice vo (2*k+2) vc))=w8 at *;go_wp2;go_roundw;case rel=>exact⟨k+1,by omega,by go_num,vo,vc,HO8.out,am0.out,DG.out⟩
   case measure=>simp[intOf];omega
  have e:k=ag.length:=by omega
  subst e;have IS:(cY g ag).length=2*ag.length:=nk.out ag;have T6:=lh (show aw wr w3.heap.size (.slice uo (cY g ag).length uc) (cY g ag) by rw[IS];have:=HR.out;rwa[QC] at this);have Nn:=lh (show wr.heap[w3.heap.size]?=some (.cells #[.slice uo (cY g ag).length uc,.slice o2 ag.length c2] 27 (0,0)) by rw[IS];exact HO.out);rw[<-IS] at o0;have alF:=lh IS;have qY:=lh (show (cY g ag).length<1000000000 by grind);clear HR HO hk aW IS x0 x1;obtain⟨M,hM⟩:∃ M,cY g ag=M:=⟨_,rfl⟩;rw[hM] at T6 Nn o0 alF qY;have HM:=lh hM;have Em:∀ (wx:World) (v:Value) (q:List Int),aw wx w3.heap.size v q->(∃ cs,wx.heap[w3.heap.size]?=some (.cells cs 27 (0,0)))->w3.heap.size ∉ v.ownBlock.toList:=λ_ _ _ h ⟨cs0,h0⟩ q=>by
   obtain⟨cs,r,hh⟩:=bu h _ (by rw[h.aC];exact q)
   grind
  have EB:=lh Em;clear hM Em;go_wp2_with fail;refine (qx _ M _ _ qY.out T6.out).mono ?_;rintro e w5 ⟨rfl,nf,dV⟩;have hn5:=EB.out _ _ _ T6.out ⟨_,Nn.out⟩;have o05:=dV.cell o0 hn5;have CP:=lh (dV.heap Nn.out hn5);have AW:(M.mergeSort λx y=>decide (x<=y)).length=M.length:=(Qd _ _).length_eq;have Zw:=lh (show Go.Lib.compact (M.mergeSort λx y=>decide (x<=y))=tidy M from rfl);have fG:=lh (show ai [] w3 w5 from HC.out.trans dV (λb hb=>Qr (T6.out.low b hb).1));obtain⟨S,hS⟩:∃ S,(M.mergeSort λx y=>decide (x<=y))=S:=⟨_,rfl⟩;rw[hS] at AW nf Zw;have rD:=lh nf;have U1:=lh AW;clear nf dV hn5 AW hS o0 o1 f0 f1;go_wp2_with fail;refine (n9 _ S _ _ (by rw[U1.out];exact qY.out) rD.out).mono ?_;rintro e w6 ⟨v6,rfl,hr6,hc6⟩;rw[Zw.out] at hr6;have Ba:=EB.out _ _ _ rD.out ⟨_,CP.out⟩;have M8:=hc6.heap CP.out Ba;have p06:=hc6.cell o05 Ba;have g06:=bE M8 0;have HO6:=lh M8;have fC:=lh (show ai [] w3 w6 from fG.out.trans hc6 (λb hb=>Qr (rD.out.low b hb).1));have UR:=lh hr6;obtain⟨o6,c6,rfl⟩:=hr6.shape;have uA:=EB.out _ _ _ hr6 ⟨_,M8⟩;have br:ai [w3.heap.size] w6 (w6.setCell ⟨w3.heap.size,0,none⟩ (.slice o6 (tidy M).length c6)):=by grind [ai.refl,ai.setCell]
  have Vd:=heap_setCell_same M8 0 (.slice o6 (tidy M).length c6);have Ew:=lh (hr6.aL br (λb hb q=>uA (by grind)));have oT:=lh (show ai [] w3 (w6.setCell ⟨w3.heap.size,0,none⟩ (.slice o6 (tidy M).length c6)) from fC.out.trans br (λj hj=>Qr (by grind)));have Br:=lh Vd;have p16:=(cell_of_row _ _ 1 _ _ _ M8).trans (show _=some (Qa o2 ag.length c2) from rfl);obtain⟨-,-,U7,-⟩:=HX.out w6 (b8.out.t fC.out);have y06:=(cell_of_row _ _ 0 _ _ _ U7).trans (show _=some (Qa none 0 0) from rfl);have y16:=(cell_of_row _ _ 1 _ _ _ U7).trans (show _=some (Qa none 0 0) from rfl);have g16:=bE U7 0;have g26:=bE U7 1;have ali:¬ w3.heap.size=w.heap.size+1:=λq=>by have:=b8.out.size;have:=xJ.out;omega
  have KN:¬ w.heap.size+1=w3.heap.size:=by grind
  clear hr6 hc6 M8 uA br Vd Ba o05;obtain⟨-,-,r87,-⟩:=HX.out (w6.setCell ⟨w3.heap.size,0,none⟩ (.slice o6 (tidy M).length c6)) (b8.out.t oT.out);have Bg:ai [w.heap.size+1] (w6.setCell ⟨w3.heap.size,0,none⟩ (.slice o6 (tidy M).length c6)) (((w6.setCell ⟨w3.heap.size,0,none⟩ (.slice o6 (tidy M).length c6)).setCell ⟨w.heap.size+1,0,none⟩ (.slice o6 (tidy M).length c6)).setCell ⟨w.heap.size+1,1,none⟩ (.slice o2 ag.length c2)):=by grind [ai.refl,ai.setCell,tidy]
  have iS:=heap_setCell_same (heap_setCell_same r87 0 (.slice o6 (tidy M).length c6)) 1 (.slice o2 ag.length c2);have q0:=(cell_of_row _ _ 0 _ _ _ iS).trans (show _=some (Qa o6 (tidy M).length c6) from rfl);have q1:=(cell_of_row _ _ 1 _ _ _ iS).trans (show _=some (Qa o2 ag.length c2) from rfl);have ZO:=lh q0;have Pc:=lh q1;have rz:∀ {v:Value} {q:List Int} {B:Nat},aw (w6.setCell ⟨w3.heap.size,0,none⟩ (.slice o6 (tidy M).length c6)) B v q->∀ b∈v.ownBlock.toList,b ∉ [w.heap.size+1]:=λh b hb e=>by
   obtain⟨cs,r,hh⟩:=bu h b (by rw[h.aC];exact hb)
   grind
  have UF:w.heap.size+2<=w3.heap.size:=by have:=b8.out.size;have:=xJ.out;omega
  have Il:=lh ((Ew.out.aL Bg (rz Ew.out)).base (show w.heap.size<=w3.heap.size by omega));have cD:=Bp.out.aL oT.out (by simp);have tJ:=lh ((cD.aL Bg (rz cD)).base (show w.heap.size<=w1.heap.size by have:=xJ.out;omega));have tD:=lh (show ∀ j∈aC (.slice o6 (tidy M).length c6),j ∉ aC (.slice o2 ag.length c2) from λj hj q=>by
   have h1:=(Ew.out.low j (by rw[<-Ew.out.aC];exact hj)).1;have h2:=(Bp.out.low j (by rw[<-Bp.out.aC];exact q)).2;omega)
  have gU:=lh (show ai [] w _ from (gJ.out.t (b8.out.t oT.out)).trans Bg (λj hj=>Qr (by grind)));have HMT:=lh (show (dO g ag).v=tidy M by show tidy (cY g ag)=_;rw[HM.out]);clear q0 q1 Bg iS rz cD UF r87;go_wp2;refine bodyPost_ret (v:=.agg #[.slice o6 (tidy M).length c6,.slice o2 ag.length c2]) (by have h0:=ZO.out;have h1:=Pc.out;simp[results,Tryz.results80,go_sem,h0,h1]) rfl ?_;rw[HMT.out];exact⟨_,_,rfl,Il.out,tJ.out,tD.out,gU.out⟩
end Go.Proofs.YtoiflofhcmjpoaaGreat
namespace Go.Proofs
open Go.Shelf
def Tryz.CM:Go.Shelf.Ren:=⟨λ| 7=>79 | 10=>125 | n=>n,λ| 23=>97 | 26=>3 | 3=>25 | 28=>104 | 0=>0 | 27=>103 | 33=>80 | 4=>4 | n=>n,λ| n=>n⟩
theorem Tryz.YZ:Go.Proofs.SlLaysZI.n7 Tryz.prog Tryz.CM:={
 mixed:=by kernel_rfl
 f7:=⟨Tryz.f79.name,by decide,Tryz.func79.trans (congrArg some (by kernel_rfl))⟩
 f10:=⟨Tryz.f125.name,by decide,Tryz.func125.trans (congrArg some (by kernel_rfl))⟩
 t0:=Tryz.underlying0
 a0:=Tryz.isAgg0
 z0:=Tryz.sizeOf0
 v0:=Tryz.zeroValue0
 t4:=Tryz.underlying4
 a4:=Tryz.isAgg4
 z4:=Tryz.sizeOf4
 v4:=Tryz.zeroValue4
 t23:=Tryz.underlying97
 a23:=Tryz.isAgg97
 z23:=Tryz.sizeOf97
 v23:=Tryz.zeroValue97
 t26:=Tryz.underlying3
 a26:=Tryz.isAgg3
 z26:=Tryz.sizeOf3
 v26:=Tryz.zeroValue3
 t27:=Tryz.underlying103
 a27:=Tryz.isAgg103
 z27:=Tryz.sizeOf103
 v27:=Tryz.zeroValue103
 t28:=Tryz.underlying104
 a28:=Tryz.isAgg104
 z28:=Tryz.sizeOf104
 v28:=Tryz.zeroValue104
 t33:=Tryz.underlying80
 a33:=Tryz.isAgg80
 z33:=Tryz.sizeOf80
 v33:=Tryz.zeroValue80 }
def Tryz.we:Go.Shelf.Ren:=⟨λ| 6=>78 | 8=>124 | 9=>59 | 11=>173 | 13=>111 | 12=>110 | 23=>164 | 24=>165 | 14=>156 | 15=>157 | 16=>158 | 17=>159 | 18=>160 | 19=>161 | 20=>154 | 21=>162 | 22=>163 | 25=>196 | 26=>197 | 27=>198 | 28=>199 | 29=>200 | 30=>152 | 31=>207 | n=>n,λ| 26=>3 | 28=>104 | 24=>25 | 0=>0 | 3=>3 | 37=>148 | 48=>189 | 50=>191 | 4=>4 | 40=>183 | 39=>182 | 45=>114 | 5=>5 | 9=>9 | 51=>208 | 55=>212 | 57=>218 | 58=>219 | 33=>80 | n=>n,λ| n=>n⟩
theorem Tryz.Wj:Go.Proofs.SlLaysZI.n6 Tryz.prog Tryz.we:={
 mixed:=by kernel_rfl
 f6:=⟨Tryz.f78.name,by decide,Tryz.func78.trans (congrArg some (by kernel_rfl))⟩
 f8:=⟨Tryz.f124.name,by decide,Tryz.func124.trans (congrArg some (by kernel_rfl))⟩
 f11:=⟨Tryz.f173.name,by decide,Tryz.func173.trans (congrArg some (by kernel_rfl))⟩
 t0:=Tryz.underlying0
 a0:=Tryz.isAgg0
 z0:=Tryz.sizeOf0
 v0:=Tryz.zeroValue0
 t24:=Tryz.underlying25
 a24:=Tryz.isAgg25
 z24:=Tryz.sizeOf25
 v24:=Tryz.zeroValue25
 t26:=Tryz.underlying3
 a26:=Tryz.isAgg3
 z26:=Tryz.sizeOf3
 v26:=Tryz.zeroValue3
 t28:=Tryz.underlying104
 a28:=Tryz.isAgg104
 z28:=Tryz.sizeOf104
 v28:=Tryz.zeroValue104
 i26:=by kernel_rfl }
end Go.Proofs
namespace Go.Proofs.YtoiflofhcmjpoaaGreat
open Plain
open Go.RowKit Go.Maps Go.Sort
theorem Rf (m:Nat):AnyZI.SortsIn Tryz.prog Tryz.we Fence.wide m :=
 ⟨λxR off cap ss W hH hblk bs=>callsIn_wide.2 (Tryz.slices_Sort_int xR off cap ss W hH hblk bs),
  λp cap W=>callsIn_wide.2 (Tryz.slices_Sort_int_none p cap W)⟩
theorem Tk (b:Nat) (w:World):Calls Tryz.prog 79 #[.map (some b)] w λe w' =>
  e=.returned (.func (.func 125) #[] #[.pointer (some ⟨w.heap.size,0,none⟩)])/\w'=w.alloc (.cells #[.map (some b)] 97) :=
 (callsIn_wide (n:=5)).1 (AnyZI.keys_in Tryz.YZ Fence.wide 5 trivial rfl (some b) w)
theorem jJ.keys {w:World} {b n:Nat} {F:Int->Option Value} (h:jJ w b n F):∃ D:DataW Unit,w.ownsMap Tryz.prog 3 sA b n D/\Maps.size D<=n/\(intKeys D).Nodup/\∀ x,x∈intKeys D↔bF x/\(F x).isSome=true:=by
 obtain⟨D,b9,hD⟩:=h;obtain⟨es,rfl,hpw,_⟩:=b9.entries dX;obtain⟨es',e,OU⟩:=b9.keysOf;obtain rfl:es=es':=by simpa using e
 have hk:∀ p∈es,∃ x,p.1=.int .i64 x/\bF x:=λp hp=>by
  obtain⟨v,hv⟩:=OU p hp;obtain⟨x,_,hx,hw⟩:=Maps.keyOf_i64 Tryz.underlying3 hv;exact⟨x,hx,hw⟩
 refine⟨_,b9,b9.size_le,?_,λx=>?_⟩
 ·show (es.map λp=>Go.intOf p.1).Nodup
  refine List.pairwise_map.2 (hpw.imp_of_mem λ{p q} hp' hq' bn e=>bn ?_);obtain⟨a,ha,-⟩:=hk p hp';obtain⟨c,hc,-⟩:=hk q hq';rw[ha,hc] at e ⊢;exact congrArg _ e
 show x∈es.map (λp=>Go.intOf p.1)↔_;rw[Qb];constructor
 ·rintro ⟨p,hp,rfl⟩
  obtain⟨a,ha,hi⟩:=hk p hp;rw[ha];show bF a/\(F a).isSome=true;refine⟨hi,?_⟩;rw[<-(hD a hi).1,has_eq,QD];exact⟨p,hp,by rw[ha];simp[Lit.sameKey]⟩
 rintro ⟨hi,hs⟩;rw[<-(hD x hi).1,has_eq,QD] at hs;obtain⟨p,hp,hs⟩:=hs;obtain⟨a,ha,-⟩:=hk p hp;rw[ha] at hs;refine⟨p,hp,?_⟩;rw[ha];simpa[Lit.sameKey,Go.intOf] using hs
theorem Kd (b n:Nat) (F:Int->Option Value) (ks:List Int) (w:World) (h:jJ w b n F) (hn:n<=1000000) (hks:ks.Nodup) (hm:∀ x,x∈ks↔bF x/\(F x).isSome=true) :
  Calls Tryz.prog 78 #[.func (.func 125) #[] #[.pointer (some ⟨w.heap.size,0,none⟩)]] (w.alloc (.cells #[.map (some b)] 97)) λe w' =>
   ∃ v,e=.returned v/\aw w' w.heap.size v (ks.mergeSort λx y=>decide (x<=y))/\ai [] w w':=by
 obtain⟨D,b9,bs,gp,jA⟩:=h.keys;have gZ:=b9.lt;have anD:SeqGives Fence.wide 2 Tryz.prog 125 #[.pointer (some ⟨w.heap.size,0,none⟩)] encZ (λss=>ss.Perm (intKeys D)) (Maps.size D) (w.alloc (.cells #[.map (some b)] 97)) :=
  AnyZI.keys_gives (ρ:=Tryz.CM) { Tryz.YZ with } Fence.wide _ trivial rfl (by omega) w.heap.size b n D _ (by simp) (by simp) (by
   obtain⟨es,clock,hb,Ft,hs,hD⟩:=b9;exact⟨es,clock,(Below.heap_alloc _ _ b gZ).trans hb,Ft,hs,hD⟩)
 have cS:=AnyZI.sorted_in Tryz.Wj Fence.wide 5 trivial trivial trivial trivial rfl (by omega) (Rf _) (enters_of Tryz.func59 (by kernel_rfl) rfl) 125 #[.pointer (some ⟨w.heap.size,0,none⟩)] trivial (enters_of Tryz.func125 (by kernel_rfl) rfl) _ _ (show Maps.size D<=maxLen by unfold maxLen;omega) (by omega) _ anD;refine ((callsIn_wide (n:=5)).1 cS).mono ?_;rintro e w' ⟨v,ss,rfl,hS,aT,-,hb⟩;have dm:ss.Perm ks:=hS.trans ((Qg gp hks).2 λx=>by grind);have GV:(ss.mergeSort λx y=>decide (x<=y))=ks.mergeSort λx y=>decide (x<=y):=mergeSort_of_perm_i dm;have hlen:ss.length=(ks.mergeSort λx y=>decide (x<=y)).length:=by rw[dm.length_eq,(Qd _ _).length_eq]
 rw[GV] at aT;have hc:ai [] w (w.alloc (.cells #[.map (some b)] 97)):=(ai.refl _ _).alloc _;refine⟨v,rfl,⟨?_,λx hx=>?_,?_⟩,hc.t (ai.tE hb (Nat.le_refl _))⟩
 ·rw[hlen] at aT
  exact kK aT hc.size
 ·exact ((hm x).1 ((Qd _ _).mem_iff.1 hx)).1
 have h1:(intKeys D).length=Maps.size D:=by
  obtain⟨es,rfl,-⟩:=b9.entries dX;show (es.map _).length=es.length;simp
 have:=hS.length_eq;omega
end Go.Proofs.YtoiflofhcmjpoaaGreat
namespace Go.Proofs.YtoiflofhcmjpoaaGreat.Plain
variable {bl:List (List Int)} {s:dW} {g:Gr} {r:Int} {p:Pt}
theorem EG {P:List Int->Prop} {l:List Int} (h:∀ m∈bl,P m) (hl:P l):∀ m∈mq l bl,P m:=λm hm=>by
 unfold mq at hm;split at hm
 ·obtain⟨k,hk,rfl⟩:=Qb.1 hm
  split
  ·exact hl
  exact h k hk
 rcases Qi.1 hm with q | q
 ·exact h m q
 rw[Qy.1 q];exact hl
def eA (s:dW):Prop:=∀ l∈s.bl,l.Pairwise (·<=·)
theorem Rs (l:List Int):(Cf l).Pairwise (·<=·):=by
 unfold Cf;have:=List.pairwise_mergeSort (le:=λx y:Int=>decide (x<=y)) (λa b c h1 h2=>by grind) (λa b=>by grind) l
 grind
theorem eA.take (h:eA s) (e:Int):eA (s.take e):=EG h (Rs _)
theorem eA.lay (h:eA s) (e:Int):eA (s.lay e):=EG h (by simp)
theorem eA.step {go:Int->Int->dW->dW} (hgo:∀ v via s,eA s->eA (go v via s)) {v via d:Int} (h:eA s):eA (fS go g v via s d):=by
 unfold fS;split
 ·exact h.lay _
 split
 ·exact h
 split
 ·have h1:eA (go (g.head d) (d / 2) (s.push (d / 2))):=hgo _ _ _ h
  unfold dW.back;split
  ·exact eA.take (s:=dW.lower _ _ _) h1 _
  exact h1
 split
 ·exact h
 exact h
theorem eA.visit {g:Gr} {p:Pt}:∀ (n:Nat) (v via:Int) (s:dW),eA s->eA (visit g p n v via s)
 | 0,_,_,_,h=>h
 | n+1,v,via,s,h=>by
  have hf:∀ (D:List Int) (t:dW),eA t->eA (D.foldl (fS (Plain.visit g p n) g v via) t):=by
   intro D
   induction D with
   | nil=>intro t ht;exact ht
   | cons d D ih=>intro t ht;exact ih _ (ht.step (eA.visit n))
  exact hf _ _ h
theorem Ax (g:Gr) (p:Pt):eA (findAll g p):=by
 have hf:∀ (l:List Int) (t:dW),eA t->eA (lq g p p.v.length l t):=by
  intro l
  induction l with
  | nil=>intro t ht;exact ht
  | cons v l ih =>
   all_goals grind [lq,eA.visit]
 exact hf _ _ (by intro l h;cases h)
def lC (bl:List (List Int)):List Int:=bl.map λl=>l.getD 0 0
def ic (g:Gr) (p:Pt):List Int:=(lC (findAll g p).bl).mergeSort λx y=>decide (x<=y)
def Kt (bl:List (List Int)) (r:Int):List Int:=(bl.find? λl=>decide (l.getD 0 0=r)).getD []
theorem j7:∀ {bl:List (List Int)},bl.flatten.Nodup->(∀ l∈bl,l≠[])->(lC bl).Nodup
 | [],_,_=>List.nodup_nil
 | l :: bl,h,hn=>by
  rw[Qz,Qq] at h;show ((l.getD 0 0) :: lC bl).Nodup;rw[List.nodup_cons];refine⟨λq=>?_,j7 h.2.1 λm hm=>hn m (Qk _ hm)⟩;obtain⟨m,hm,e⟩:=Qb.1 q;have h1:∀ k:List Int,k≠[]->k.getD 0 0∈k:=λk hk=>by
   cases k with
   | nil=>exact absurd rfl hk
   | cons x k=>simp
  exact h.2.2 _ (h1 l (hn l (by simp))) _ (Qt.2 ⟨m,hm,h1 m (hn m (Qk _ hm))⟩) e.symm
theorem zX (h:r∈lC bl):Kt bl r∈bl/\(Kt bl r).getD 0 0=r:=by
 obtain⟨l,hl,e⟩:=Qb.1 h;unfold Kt;cases hf:bl.find? λl=>decide (l.getD 0 0=r) with
 | none =>
  grind
 | some m=>exact⟨List.mem_of_find?_eq_some hf,by grind⟩
theorem vL:r∈ic g p↔r∈lC (findAll g p).bl:=(Qd _ _).mem_iff
theorem uT (g:Gr) (p:Pt):(ic g p).length=(findAll g p).bl.length:=by
 unfold ic;rw[(Qd _ _).length_eq];simp[lC]
theorem yo (hp:aD g p):(findAll g p).bl.length<=p.e.length/\∀ l∈(findAll g p).bl,l.length<=p.e.length/\∀ e∈l,e∈p.e:=by
 obtain⟨h1,-⟩:=kG hp;have h2:=eP hp;have h3:∀ {bl:List (List Int)},(∀ l∈bl,l≠[])->bl.length<=bl.flatten.length:=by
  intro bl
  induction bl with
  | nil=>intro _;simp
  | cons l bl ih =>
   intro h;have:=ih λm hm=>h m (Qk _ hm);have:=List.length_pos_iff.2 (h l (by simp))
   grind
 refine⟨by have:=h3 h1.cd.AP;rw[h2.length_eq] at this;exact this,λl hl=>⟨?_,λe he=>h2.mem_iff.1 (Qt.2 ⟨l,hl,he⟩)⟩⟩;rw[<-h2.length_eq];exact (List.sublist_flatten_of_mem hl).length_le
end Go.Proofs.YtoiflofhcmjpoaaGreat.Plain
namespace Go.Proofs.YtoiflofhcmjpoaaGreat
open Plain
open Go.RowKit Go.Maps
namespace Plain
def xr (g:Gr) (p:Pt) (r:Int):List Int:=(dO g (Kt (findAll g p).bl r)).v
def qP (g:Gr) (p:Pt) (r:Int):List Int:=Kt (findAll g p).bl r
end Plain
theorem yf (vg vp:Value) (g:Plain.Gr) (p:Plain.Pt) (w:World) (mE:p.v.length<=100000) (hg:cA w vg g) (hp:dt w vp p) :
  Calls Tryz.prog 37 #[vg,vp] w λe w'=>∃ ov,e=.returned (.tuple #[ov,.int .i64 (p.err g)])/\(p.err g≠0->ov=.slice none 0 0) /\
   (p.err g=0->∃ xs,bN w' w.heap.size 27 2 ov (Plain.ic g p).length xs (IP (xr g p) (qP g p) (Plain.ic g p)))/\ai [] w w':=by
 obtain⟨eo,cap,ao,ac,bo,bc,rfl,rfl,HG,HP,hm,uJ,oJ,pU,nG,xL,uD,aY,bm⟩:=eF hg hp;clear hg hp;obtain⟨x0,x1,y0,y1,bs⟩:=bm.out _ (ai.refl _ _);go_enter Tryz.func37,Tryz.ntmps37;go_wp2_with fail;obtain⟨w1,gu⟩:∃ w1,((w.alloc (.cells #[.int .i64 g.n,.slice eo g.e.length cap] 24)).alloc (.cells #[.slice ao p.v.length ac,.slice bo p.e.length bc] 27))=w1:=⟨_,rfl⟩;rw[gu] at aY bm ⊢;clear gu x0 x1 y0 y1 bs;refine (jP _ _ g p _ (by omega) (HG.out.fresh aY.out) (HP.out.fresh aY.out)).mono ?_;rintro e w2 ⟨rfl,bI⟩;have bU:=lh (aY.out.tr bI);have nm:=lh bI;obtain⟨x0,x1,y0,y1,bs⟩:=bm.out _ bI;clear bI;by_cases hr:p.err g=0
 ·have HR:=lh hr
  rw[hr];have Ip:=lh (Plain.Pt.ax hr);have fB:=lh (Plain.Pt.aF hr).1;obtain⟨hz4,hz5,hz6,-⟩:=Plain.Gr.aF (Plain.Pt.aF hr).1;have AK:=lh (show p.e.length<=1024 by have:=ep (Plain.Pt.aF hr).2.2.1;omega);obtain⟨N,hN⟩:∃ N:Nat,g.n=N:=⟨g.n.toNat,by omega⟩;have HN:=lh hN;clear hz4 hz5 hz6 hr hN;go_wp2_with fail;have hf:=NI _ _ g p w2 N HN.out HR.out (HG.out.fresh bU.out) (HP.out.fresh bU.out);have Ke:=lh hf;clear hf;refine Ke.out.mono ?_;rintro e w3 ⟨k,ev,m,F,rfl,-,Dt,ze,hk,hkw,OU,dK⟩;have NA:=lh Dt;have b8:=lh (nm.out.tr dK);obtain⟨x0,x1,y0,y1,bs⟩:=bm.out _ b8.out;obtain⟨-,-,-,-,-,-,-,a7⟩:=Dt.eight;have aaS:=lh (Plain.kG Ip.out).1;have qY:=lh (show m<=100000 by omega);clear Dt ze OU hk dK Ke;have HIX:=lh (show ∀ x,x∈Plain.lC (Plain.findAll g p).bl↔bF x/\(F x).isSome=true from λx=>by
   constructor
   ·intro hx
    obtain⟨l,hl,rfl⟩:=Qb.1 hx;obtain⟨v,h1,h2,-⟩:=NA.out.rel.1 l hl;have bn:=aaS.out.cd.AP l hl;have hm:l.getD 0 0∈l:=by
     grind
    exact⟨h2.2.1 _ hm,by grind⟩
   rintro ⟨-,hs⟩;obtain⟨v,hv⟩:=Option.isSome_iff_exists.1 hs;obtain⟨l,hl,e⟩:=NA.out.rel.2 x v hv;exact Qb.2 ⟨l,hl,e⟩)
  go_wp2_with fail;refine (Tk k.mp w3).mono ?_;rintro e w4 ⟨rfl,rfl⟩;have qU:=Kd k.mp m F (Plain.lC (Plain.findAll g p).bl) w3 NA.out.map (by have:=qY.out;omega) (Plain.j7 aaS.out.nd aaS.out.cd.AP) HIX.out;have El:=lh qU;clear qU x0 x1 y0 y1 bs a7;go_wp2_with fail;refine El.out.mono ?_;rintro e w5 ⟨v5,rfl,nf,dV⟩;have nf:aw w5 w3.heap.size v5 (Plain.ic g p):=nf;obtain⟨o5,c5,rfl⟩:=nf.shape;have rD:=lh nf;have fG:=lh dV;have HKL:=lh (show (Plain.ic g p).length<=1024 by rw[Plain.uT];have:=(Plain.yo Ip.out).1;have:=AK.out;omega);clear nf dV El HIX;obtain⟨K,hK⟩:∃ K,Plain.ic g p=K:=⟨_,rfl⟩;have HK:=lh hK;rw[hK] at rD HKL ⊢;clear hK;have Bb:=lh (show w.heap.size<=w5.heap.size from ((aY.out.tr b8.out).tr fG.out).size);go_wp2_with fail;go_loopw [8,10,27] (λov _ iv wr=>∃ i:Nat,i<=K.length/\iv=.int .i64 i/\∃ xs,bN wr w5.heap.size 27 2 ov i xs (IP (xr g p) (qP g p) (K.take i))/\ai [] w5 wr) (λ_ _ iv _=>K.length - (intOf iv).toNat);case atStart=>exact⟨0,QF _,rfl,[],bN.nil _ _ _ _,ai.refl _ _⟩
  case round =>
   obtain⟨i,hi,rfl,xs,bn,hc⟩:=hrel;have jq:=lh bn;have HC:=lh hc;have Rc:=lh (fG.out.tr hc);obtain⟨x0,x1,y0,y1,bs⟩:=bm.out wr (b8.out.tr Rc.out);obtain⟨uo,uc,rfl⟩:=bn.shape;have rI:=HKL.out;clear bn hc;by_cases aW:i<K.length
   ·obtain⟨kb,rfl,Xi⟩:=rD.out.some (by omega)
    have ck:=HC.out.bO (Xi i aW);have Nx:K.getD i 0∈Plain.lC (Plain.findAll g p).bl:=by rw[<-Plain.vL,HK.out];exact aQ aW
    have uH:=lh (show K.take (i+1)=K.take i++[K.getD i 0] by rw[Qj aW];simp[List.getD,aW]);have Tb:bF (K.getD i 0):=rD.out.2.1 _ (aQ aW);obtain⟨r,hr⟩:∃ r,K.getD i 0=r:=⟨_,rfl⟩;rw[hr] at ck Nx uH Tb;obtain⟨iz,gY⟩:=Plain.zX Nx;obtain⟨v,hv1,UT,-⟩:=NA.out.rel.1 _ iz;rw[gY] at hv1;have xW:=(Plain.yo Ip.out).2 _ iz;obtain⟨L,hL⟩:∃ L,Plain.Kt (Plain.findAll g p).bl r=L:=⟨_,rfl⟩;rw[hL] at UT xW;have PH:=lh (show qP g p r=L from hL);have HLV:=lh (show xr g p r=(dO g L).v by grind [xr]);have B6:=lh ((UT.aL Rc.out (by simp)).ints);have Xv:=lh xW;have ZA:=(NA.out.map.aL Rc.out (by simp)).ya Tb;rw[hv1,Option.getD_some] at ZA;obtain⟨vo,vc,rfl⟩:=UT.shape;clear Xi hr Nx iz gY hv1 UT xW hL;go_wp2_with fail;refine (OI _ _ g L _ fB.out (by have:=Xv.out.1;have:=AK.out;omega) (λe he=>Plain.Pt.gS HR.out (Xv.out.2 e he)) (HG.out.fresh ((aY.out.tr b8.out).tr Rc.out)) B6.out).mono ?_;rintro e w6 ⟨v1,v2,rfl,h1,h2,fy,hc6⟩;have Js:=lh (jq.out.fresh hc6);have H1:=lh (h1.base HC.out.size);have H2:=lh (h2.base HC.out.size);have H1L:=lh h1.low;have H2L:=lh h2.low;have tD:=lh fy;have fC:=lh (HC.out.tr hc6);have yn:=lh (show aC v1=v1.ownBlock.toList/\aC v2=v2.ownBlock.toList from⟨h1.aC,h2.aC⟩);obtain⟨o1,c1,rfl⟩:=h1.shape;obtain⟨o2,c2,rfl⟩:=h2.shape;have HSW:=lh (show wr.heap.size<=w6.heap.size from hc6.size);have Nj:=lh (show ∀ u∈(#[Qa o1 (dO g L).v.length c1,Qa o2 L.length c2]:Array Value).toList,u.oneCell'=true from λu hu=>by
     simp at hu;rcases hu with rfl | rfl <;> rfl)
    have HI:=lh (show i<68719476736 by grind);clear h1 h2 fy hc6 x0 x1 y0 y1 bs ZA ck;go_wp2_with (at_builtin;refine pj zC rfl _ _ rfl (v:=.slice uo i uc) rfl rfl rfl Js.out.out fC.out.size rfl Nj.out HI.out ?_;intro g4 ahh w9 r9 c9 l9;have R9:=lh r9;have C9:=lh c9;clear r9 c9 l9);go_roundw;case rel =>
     have mC:=Js.out.add (us:=[.slice o1 (dO g L).v.length c1,.slice o2 L.length c2]) (ds:=[.row (dO g L).v,.row L]) (by decide) rfl rfl (λj d hj=>by
      rcases j with _ | _ | j
      ·simp at hj;subst hj;exact H1.out
      ·simp at hj;subst hj;exact H2.out
      ·simp at hj) (λa b ha hb bn=>by
      have h12:(Qa o1 (dO g L).v.length c1).ownBlock=none\/(Qa o1 (dO g L).v.length c1).ownBlock≠(Qa o2 L.length c2).ownBlock:=by
       cases hq:(Qa o1 (dO g L).v.length c1).ownBlock with
       | none=>exact QA rfl
       | some b=>exact Qr λe=>tD.out b (by rw[yn.out.1,hq];simp) (by rw[yn.out.2,<-e];simp)
      simp at ha hb;rcases a with _ | _ | a
      ·rcases b with _ | _ | b
       ·exact absurd rfl bn
       ·exact h12
       omega
      ·rcases b with _ | _ | b
       ·cases hq:(Qa o2 L.length c2).ownBlock with
        | none=>exact QA hq
        | some b =>
         refine Qr λe=>?_;have e:(Qa o2 L.length c2).ownBlock=(Qa o1 (dO g L).v.length c1).ownBlock:=e;exact tD.out b (by rw[yn.out.1,<-e,hq];simp) (by rw[yn.out.2,hq];simp)
       ·exact absurd rfl bn
       omega
      ·omega) (λa b q ha hb hq e=>by
      have:=(jq.out.kind ha hq).2.1;simp at hb;rcases b with _ | _ | b
      ·have e:(Qa o1 (dO g L).v.length c1).ownBlock=some q:=e
       have:=(H1L.out q (by rw[e];simp)).1;omega
      ·have e:(Qa o2 L.length c2).ownBlock=some q:=e
       have:=(H2L.out q (by rw[e];simp)).1;omega
      omega) R9.out C9.out
     refine⟨i+1,by omega,by go_num,_,by rw[uH.out,Gh,PH.out,HLV.out];exact mC,fC.out.trans C9.out λj hj=>Qr (Js.out.out.lt j (by grind)).1⟩
    case measure=>simp[intOf];omega
   have e:i=K.length:=by omega
   subst e;rw[QC] at jq;clear x0 x1 y0 y1 bs hi aW;go_wp2;refine bodyPost_ret (v:=.tuple #[.slice uo K.length uc,.int .i64 0]) (by simp[results,Tryz.results37,go_sem]) rfl ?_;exact⟨_,by rw[HR.out],λh=>absurd HR.out h,λ_=>⟨xs,by rw[HK.out];exact jq.out.base Bb.out⟩,(aY.out.tr b8.out).tr Rc.out⟩
 obtain⟨er,qT⟩:∃ er,p.err g=er:=⟨_,rfl⟩;rw[qT] at hr ⊢;have HR:=lh hr;have xI:=lh qT;have bz:(er != 0)=true:=by simp only[bne_iff_ne];exact hr
 clear hr qT x0 x1 y0 y1 bs;go_wp2;refine bodyPost_ret (v:=.tuple #[.slice none 0 0,.int .i64 er]) (by simp[results,Tryz.results37,go_sem]) rfl ?_;exact⟨_,by rw[xI.out],λ_=>rfl,λh=>absurd (xI.out.symm.trans h) HR.out,bU.out⟩
namespace Plain
variable {g:Gr} {p:Pt}
noncomputable def mn (g:Gr) (p:Pt):Bool:=@decide (p.err g=0/\cg g p) (Classical.propDecidable _)
theorem lp:mn g p=true↔p.err g=0/\cg g p:=by grind [mn]
theorem Cr {E:List Int} {v:Int}:v∈cY g E↔∃ e∈E,(g.at e).1=v\/(g.at e).2=v:=by
 all_goals grind [cY]
theorem O4 (h:p.err g=0):((ic g p).length=1/\xr g p ((ic g p).getD 0 0)=p.v/\qP g p ((ic g p).getD 0 0)=p.e)↔cg g p:=by
 have hp:=Pt.ax h;obtain⟨-,hv,he,-⟩:=Pt.aF h;have hV:p.v.Pairwise (·<·):=bK hv;have hE:p.e.Pairwise (·<·):=bK he;rw[<-Cs hp,uT];refine and_congr_right λh1=>?_;obtain⟨l,hB⟩:=List.length_eq_one_iff.1 h1;have hk:ic g p=[l.getD 0 0]:=by unfold ic lC;rw[hB];simp
 have gZ:qP g p (l.getD 0 0)=l:=by unfold qP Kt;rw[hB];simp
 have dm:=eP hp;rw[hB,Qz,List.flatten_nil,List.append_nil] at dm;have ahA:l.Pairwise (·<=·):=Ax g p l (by grind);have hle:l=p.e:=by
  have hn:l.Nodup:=dm.nodup_iff.2 hp.en;have aW:l.Pairwise (·<·):=by
   have:=ahA.and hn;exact this.imp λ{a b} k=>by obtain⟨k1,k2⟩:=k;exact Int.lt_iff_le_and_ne.2 ⟨k1,k2⟩
  grind [jZ]
 have X4:xr g p (l.getD 0 0)=tidy (cY g p.e):=by
  show tidy (cY g (qP g p (l.getD 0 0)))=_;rw[gZ,hle]
 have h0:(ic g p).getD 0 0=l.getD 0 0:=by rw[hk];rfl
 rw[h0,X4,gZ,hle];have hds:∀ v,v∈cY g p.e↔∃ d∈p.ah,g.tail d=v:=λv=>by
  rw[Cr];constructor
  ·rintro ⟨e,he,q⟩
   have h2:=dP g e;have hd:2*e∈p.ah:=au.2 (by rwa[show 2*e / 2=e by omega]);rcases q with q | q
   ·exact⟨2*e,hd,by rw[h2.1,q]⟩
   exact⟨aH (2*e),bD hd,by rw[az,h2.2,q]⟩
  all_goals grind [au,iO]
 constructor
 all_goals grind [lM,jZ,aD.aP]
end Plain
theorem IL (vg vp:Value) (g:Plain.Gr) (p:Plain.Pt) (w:World) (mE:p.v.length<=100000) (hg:cA w vg g) (hp:dt w vp p) :
  Calls Tryz.prog 65 #[vg,vp] w λe w'=>e=.returned (.bool (mn g p))/\ai [] w w':=by
 obtain⟨eo,cap,ao,ac,bo,bc,rfl,rfl,HG,HP,hm,uJ,oJ,pU,nG,xL,uD,aY,bm⟩:=eF hg hp;clear hg hp;obtain⟨x0,x1,y0,y1,bs⟩:=bm.out _ (ai.refl _ _);go_enter Tryz.func65,Tryz.ntmps65;go_wp2_with fail;obtain⟨w1,gu⟩:∃ w1,((w.alloc (.cells #[.int .i64 g.n,.slice eo g.e.length cap] 24)).alloc (.cells #[.slice ao p.v.length ac,.slice bo p.e.length bc] 27))=w1:=⟨_,rfl⟩;rw[gu] at aY bm ⊢;clear gu x0 x1 y0 y1 bs;refine (yf _ _ g p _ mE (HG.out.fresh aY.out) (HP.out.fresh aY.out)).mono ?_;rintro e w2 ⟨ov,rfl,gV,sx,bI⟩;have bU:=lh (aY.out.tr bI);obtain⟨x0,x1,y0,y1,bs⟩:=bm.out _ bI;clear bI;by_cases hr:p.err g=0
 ·obtain⟨xs,bn⟩:=sx hr
  have jq:=lh bn;have HR:=lh hr;have MT:=lh (O4 hr);obtain⟨uo,uc,rfl⟩:=bn.shape;obtain⟨K,hK⟩:∃ K,Plain.ic g p=K:=⟨_,rfl⟩;rw[hr];rw[hK] at jq MT ⊢;clear bn gV sx hr hK;by_cases h1:K.length=1
  ·obtain⟨gb,gc,UZ⟩:=jq.out.some (by omega)
   simp only[Qa.injEq] at UZ;obtain⟨rfl,-,-⟩:=UZ;have c0:=jq.out.cell (k:=0) (by rw[jq.out.cells];omega);have c1:=jq.out.cell (k:=1) (by rw[jq.out.cells];omega);have r0:=jq.out.row (Aq (xr g p) (qP g p) K 0 (by omega));have r1:=jq.out.row (Dv (xr g p) (qP g p) K 0 (by omega));obtain⟨V,hV⟩:∃ V,xr g p (K.getD 0 0)=V:=⟨_,rfl⟩;obtain⟨E,hE⟩:∃ E,qP g p (K.getD 0 0)=E:=⟨_,rfl⟩;rw[hV] at r0;rw[hE] at r1;rw[hV,hE] at MT;obtain⟨u0,hu0⟩:∃ u0,xs.getD 0 undef=u0:=⟨_,rfl⟩;obtain⟨u1,PO⟩:∃ u1,xs.getD 1 undef=u1:=⟨_,rfl⟩;have r1':aw w2 w1.heap.size (xs.getD 1 undef) E:=r1;have r0':aw w2 w1.heap.size (xs.getD 0 undef) V:=r0;rw[hu0] at c0 r0';rw[PO] at c1 r1';have FN:=lh (show dt w2 (.agg #[u0,u1]) ⟨V,E⟩ from⟨u0,u1,rfl,r0'.ints,r1'.ints⟩);have Ik:=lh (HP.out.fresh bU.out);have bl:((K.length:Int)==1)=true:=by rw[h1];rfl
   have au5:0<K.length:=by omega
   have XA:=lh (show mn g p=(decide (V=p.v)&&decide (E=p.e)) by
    rw[QE,lp,Bool.and_eq_true,decide_eq_true_iff,decide_eq_true_iff,<-MT.out];exact⟨λk=>k.2.2,λk=>⟨HR.out,h1,k⟩⟩)
   have It:=lh h1;clear r0 r1 r0' r1' hV hE hu0 PO x0 x1 h1 jq;go_wp2_with fail;have aG:ai [] w2 w2.drew:=(ai.refl [] w2).drew;refine al (ai [] w2) [0,1,2,3,4,5,6,7,8,9,10,11,13,14] (Way.line [0,1,2,3,4,5,6,7,8,9,10,11,12,13,14] .done) (by kernel_rfl) (by kernel_rfl) ?_;simp only[Way.line]
   repeat (refine aj (v:=?_) rfl (by rfl) (by rfl) (λ_ _ _ h=>h) aG (λw' aB=>?_) ?_;rotate_left;(focus (have fE:=aB.c c0;have fV:=aB.c c1;have kD:=aB.c y0;have tq:=aB.c y1;clear aB;go_simp;try with_reducible rfl));simp only[Qh,Z1,Z2,Z3,Z4,Z5,Z6])
   refine aq rfl (by rfl) (by rfl) (λK hK=>?_);go_simp;refine (NQ _ _ ⟨V,E⟩ p _ (FN.out.fresh aG) (Ik.out.fresh aG)).mono ?_;rintro e w3 ⟨rfl,eV⟩;have bH:=aG.t eV;clear aG eV;have aG:=bH;clear bH;refine hK.out _ _ (λ_=>aG) ?_;clear hK K;try simp only
   repeat (refine aj (v:=?_) rfl (by rfl) (by rfl) (λ_ _ _ h=>h) aG (λw' aB=>?_) ?_;rotate_left;(focus (skip;clear aB;go_simp;try with_reducible rfl));simp only[Qh,Z1,Z2,Z3,Z4,Z5,Z6])
   refine ar ?_;have b8:=lh (bU.out.tr aG);clear aG c0 c1 y0 y1 bs;generalize w3=w4 at *;go_wp2;go_ret;exact⟨aM (by show _=mn g p;rw[XA.out]),b8.out⟩
  have bl:((K.length:Int)==1)=false:=by rw[beq_eq_false_iff_ne];omega
  have XA:=lh (show mn g p=false by
   rw[Qe];intro k;exact h1 (MT.out.2 (lp.1 k).2).1)
  clear x0 x1 h1;go_wp2_with fail;have aG:ai [] w2 w2.drew:=(ai.refl [] w2).drew;refine al (ai [] w2) [0,1,2,3,4,5,6,7,8,9,10,11,13,14] (Way.line [0,1,2,3,4,5,6,7,8,9,10,11,12,13,14] .done) (by kernel_rfl) (by kernel_rfl) ?_;simp only[Way.line]
  repeat
   first
    | (refine cz rfl (by rfl) (by rfl) (λ_ _ _ h=>h) aG ?_;simp only[Qh,Z1,Z2,Z3,Z4,Z5,Z6])
    | (refine aj (v:=?_) rfl (by rfl) (by rfl) (λ_ _ _ h=>h) aG (λw' aB=>?_) ?_;rotate_left;(focus (have fE:=aB.c y0;have fV:=aB.c y1;clear aB;go_simp;try with_reducible rfl));simp only[Qh,Z1,Z2,Z3,Z4,Z5,Z6])
    | (refine bW rfl (by rfl) (by rfl) aG ?_;simp only[Qh,Z1,Z2,Z3,Z4,Z5,Z6])
  refine ar ?_;have b8:=lh (bU.out.tr aG);clear aG y0 y1 bs;generalize w2.drew=w4 at *;go_wp2;go_ret;exact⟨aM (by show _=mn g p;rw[XA.out]),b8.out⟩
 have XA:=lh (show mn g p=false by
  grind [lp])
 obtain rfl:=gV hr;obtain⟨er,qT⟩:∃ er,p.err g=er:=⟨_,rfl⟩;rw[qT] at hr ⊢;have bz:(er==0)=false:=by rw[beq_eq_false_iff_ne];exact hr
 clear hr qT x0 x1 gV sx;go_wp2_with fail;have aG:ai [] w2 w2.drew:=(ai.refl [] w2).drew;refine al (ai [] w2) [0,1,2,3,4,5,6,7,8,9,10,11,13,14] (Way.line [0,1,2,3,4,5,6,7,8,9,10,11,12,13,14] .done) (by kernel_rfl) (by kernel_rfl) ?_;simp only[Way.line]
 repeat
  first
   | (refine cz rfl (by rfl) (by rfl) (λ_ _ _ h=>h) aG ?_;simp only[Qh,Z1,Z2,Z3,Z4,Z5,Z6])
   | (refine aj (v:=?_) rfl (by rfl) (by rfl) (λ_ _ _ h=>h) aG (λw' aB=>?_) ?_;rotate_left;(focus (have fE:=aB.c y0;have fV:=aB.c y1;clear aB;go_simp;try with_reducible rfl));simp only[Qh,Z1,Z2,Z3,Z4,Z5,Z6])
   | (refine bW rfl (by rfl) (by rfl) aG ?_;simp only[Qh,Z1,Z2,Z3,Z4,Z5,Z6])
 refine ar ?_;have b8:=lh (bU.out.tr aG);clear aG y0 y1 bs;generalize w2.drew=w4 at *;go_wp2;go_ret;exact⟨aM (by show _=mn g p;rw[XA.out]),b8.out⟩
