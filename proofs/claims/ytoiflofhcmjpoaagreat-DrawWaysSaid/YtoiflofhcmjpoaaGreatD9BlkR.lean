/- What draw.Block answers, in plain words; the turns are told by the ak. No program here. -/
import Derived.Test.YtoiflofhcmjpoaaGreatD9PutW
import Derived.Test.YtoiflofhcmjpoaaGreatD9TurnsW
import Derived.Test.YtoiflofhcmjpoaaGreatD9Keysf
open List renaming mem_singleton→Qa,getElem?_eq_getElem→Qd,range→Qi
open Or renaming inr→Qb,inl→Qh
open Nat renaming le_refl→Qc,zero_add→Qg
open Go.Act renaming put→Qe
open Go.Value renaming slice→Qf,int→Qj
namespace Go.Proofs.YtoiflofhcmjpoaaGreat.Plain
def Tm (g:Gr) (e:Int):List (List Int):=if (g.at e).1=(g.at e).2 then [[2*e],[2*e+1]] else [[2*e,2*e+1]]
def kh (g:Gr) (b:Pt):Option (List (List Int)):=if b.e.length=1 then some (Tm g (b.e.getD 0 0)) else (qt g b.v b.e.length (mS g b)).map (·.ak)
def zJ (g:Gr) (b:Pt) (err:Int) (t:List (List Int)):Prop :=
 (b.err g≠0/\err=b.err g/\t=[])\/(b.err g=0/\¬ cQ g b/\err=10/\t=[])\/(b.err g=0/\cQ g b/\(2<b.e.length/\um g b/\kh g b=none)/\err=8/\t=[]) \/
  (b.err g=0/\cQ g b/\err=0/\∃ aa F,kh g b=some F/\eE g b aa F/\t=aa.map first)
theorem AT {g:Gr} {p:Pt} (h0:p.err g=0) (hs:cQ g p):p.v≠[]:=fun q=>by
 obtain⟨e,l,he,-⟩:=hs.1;have:=((Pt.ay h0).ends e (by rw[he];simp)).1;rw[q] at this;simp at this
end Go.Proofs.YtoiflofhcmjpoaaGreat.Plain
-- READS ONLY
namespace Go.Proofs.YtoiflofhcmjpoaaGreat
open Go.RowKit Go.Maps
theorem pE (w:World):cf w (.slice none 0 0) []:=⟨none,0,rfl,by simp,by simp⟩
theorem bu.reads {w:World} {B n:Nat} {ov:Value} {xs:List Value} {ll:List (List Int)} (h:bu w B 25 1 ov n xs (ll.map Cell.row)):cf w ov ll/\n=ll.length:=by
 have hn:n=ll.length:=by
  have h1:=h.len;have h2:=h.cells
  grind
 subst hn;refine⟨?_,rfl⟩;obtain⟨ao,c,e⟩:=h.shape;have iD:ll.length<=9223372036854775807:=by
  rcases h.out.2 with ⟨-,q⟩ | ⟨g',c',cur,q,-,-,h3,h4,-⟩
  ·omega
  simp[maxLen] at h4;omega
 refine⟨ao,c,e,iD,fun i hi=>?_⟩;have sW:xs.length=ll.length:=by have:=h.cells;omega
 obtain⟨g',c',e2⟩:=h.some (by omega);rw[e2] at e h;simp only[Qf.injEq] at e;have hr:=h.row (k:=i) (l:=ll.getD i []) (by grind);refine⟨g',0,xs.getD i undef,e.1.symm,by rw[Qg];exact h.cell (by omega),?_,hr.ints⟩;rcases hr.1.2 with ⟨q,-⟩ | ⟨g2,c2,cur,q,-,-,h3,h4,-⟩
 ·rw[q];exact⟨none,0,0,rfl,by simp,by simp⟩
 exact⟨_,_,_,q,h3,by simpa[maxLen] using h4⟩
theorem Sd {g:Plain.Gr} {b p:Plain.Pt} {s:Plain.Sk} {aa:List (List Int)} (h:Plain.zQ g b s p aa):s.rest.length<=s.left:=by
 unfold Plain.Sk.left;refine Plain.kW (f:=fun c:Plain.a8=>c.aq) fun r hr=>?_;have h2:=(h.KU r hr).two;obtain⟨v,hv⟩:=List.exists_mem_of_length_pos (l:=r.ends) (by omega);rw[(h.KU r hr).ends] at hv
 grind [Plain.cC]
theorem Cl {g:Plain.Gr} {p:Plain.Pt} {e N:Nat} (_hp:Plain.aB g p) (hr:p.e.Pairwise (·<·)) (he:p.e=[(e:Int)]) (hN:g.n=N):jV g e 2 N=((Plain.fa g p).map Plain.first).map Cell.row:=by
 refine List.ext_getElem (by simp[jV,Plain.fa,hN]) fun i h1 h2=>?_;simp only[jV,Plain.fa,List.getElem_map,List.getElem_range];rw[Plain.Nh he]
 congr 1
 symm;refine Plain.su fun k hk=>?_;have hs:(Plain.aF g p i).Pairwise (·<·):=(Plain.ig hr).filter _;rcases Nat.eq_zero_or_pos k with q | q
 ·rw[q];exact Int.le_refl _
 have h0:0<(Plain.aF g p i).length:=by omega
 have:=(List.pairwise_iff_getElem.1 hs) 0 k h0 hk q;simp only[List.getD,Qd h0,Qd hk,Option.getD_some];omega
set_option maxRecDepth 100000 in
set_option maxHeartbeats 8000000 in
theorem yt (vg vp:Value) (g:Plain.Gr) (p:Plain.Pt) (w:World) (qM:p.v.length<=100000) (hg:dJ w vg g) (hp:fL w vp p) :
  Calls Tryz.prog 38 #[vg,vp] w fun e w'=>∃ v err t,e=.returned (.tuple #[v,.int .i64 err])/\Plain.zJ g p err t/\cf w' v t/\ag [] w w':=by
 obtain⟨eo,cap,ao,ac,bo,bc,rfl,rfl,HG,HP,hm,DA,sQ,Bq,uE,S4,Ko,b8,dh⟩:=lN hg hp;clear hg hp;obtain⟨x0,x1,y0,y1,dj⟩:=dh.out _ (ag.refl _ _)
 go_enter Tryz.func38,Tryz.ntmps38
 go_wp2_with fail
 obtain⟨w1,qK⟩:∃ w1,((w.alloc (.cells #[.int .i64 g.n,.slice eo g.e.length cap] 24)).alloc (.cells #[.slice ao p.v.length ac,.slice bo p.e.length bc] 27))=w1:=⟨_,rfl⟩;rw[qK] at b8 dh ⊢;clear qK x0 x1 y0 y1 dj;refine (eW _ _ g p _ (by omega) (HG.out.fresh b8.out) (HP.out.fresh b8.out)).mono ?_;rintro e w2 ⟨rfl,bA⟩;have cB:=lh (b8.out.tr bA);have LP:=lh bA;obtain⟨x0,x1,y0,y1,dj⟩:=dh.out _ bA;clear bA;by_cases h0:p.err g=0
 ·rw[h0]
  have H0:=lh h0;clear h0
  go_wp2_with fail
  refine (tI _ _ g p _ qM (HG.out.fresh cB.out) (HP.out.fresh cB.out)).mono ?_;rintro e w3 ⟨rfl,cT⟩;have cU:=lh (cB.out.tr cT);have sY:=lh (LP.out.tr cT);clear cT x0 x1 y0 y1 dj;obtain⟨x0,x1,y0,y1,dj⟩:=dh.out _ sY.out;cases hs:Plain.iw g p with
  | false =>
   have TI:¬ Plain.cQ g p:=fun q=>by rw[Plain.fy.2 ⟨H0.out,q⟩] at hs;cases hs
   clear hs;go_wp2;refine bodyPost_ret (v:=.tuple #[.slice none 0 0,.int .i64 10]) (by simp[results,Tryz.results38,go_sem]) rfl ?_;exact⟨_,10,[],rfl,Qb (Qh ⟨H0.out,TI,rfl,rfl⟩),pE _,cU.out⟩
  | true =>
   have DM:Plain.cQ g p:=(Plain.fy.1 hs).2;have tC:=lh DM;have sr:0<p.e.length:=by
    obtain⟨e0,l,he,-⟩:=DM.1;rw[he];simp
   clear hs DM;have nN:=lh (Plain.Pt.ay H0.out);have jN:=lh (Plain.Pt.aA H0.out);have iE:=lh (Plain.Gr.aA jN.out.1);obtain⟨N,hN⟩:∃ N:Nat,g.n=N:=⟨g.n.toNat,by have:=iE.out.1;omega⟩;have HN:=lh hN;have lR:p.e.length<=1024:=by
    have h1:=eT jN.out.2.2.1;have h2:=iE.out.2.2.1
    grind
   by_cases h1:p.e.length=1
   ·have H1:=lh h1
    obtain⟨e,he⟩:∃ e,p.e=[e]:=List.length_eq_one_iff.1 h1;have qO:0<=e/\e<g.e.length:=by
     have:=Plain.bX jN.out.2.2.1 (i:=0) (by omega)
     grind
    obtain⟨en,kD⟩:∃ en:Nat,e=en:=⟨e.toNat,by omega⟩;subst kD;have HE:=lh he;have SR:en<g.e.length:=by omega
    obtain⟨bb,sX,rfl,qQ⟩:=uE.out (by grind);have ce:=cU.out.dp (qQ 0 (by omega));rw[he,Nat.add_zero] at ce;have fz:((p.e.length:Int)==1)=true:=by rw[h1];rfl
    have CD:0<p.e.length:=sr;have ce':w3.cell? ⟨bb,sX,none⟩=some (.int .i64 (en:Nat)):=ce;clear qQ he qO ce hN
    go_wp2_with fail
    have aW:ag [] w3 w3.drew:=(ag.refl [] w3).drew;refine ar (ag [] w3) [0,1,2,3,4,6,7] (Way.line [0,1,2,3,4,5,6,7] .done) (by kernel_rfl) (by kernel_rfl) ?_;simp only[Way.line]
    repeat (refine ai (v:=?_) rfl (by rfl) (by rfl) (fun _ _ _ h=>h) aW (fun w' aI=>?_) ?_;rotate_left;(focus (have gB:=aI.c x0;have gQ:=aI.c x1;have np:=aI.c y0;have Hg:=aI.c y1;have rd4:=aI.c ce';clear aI;go_simp;try with_reducible rfl));simp only[Qe,Z1,Z2,Z3,Z4,Z5,Z6])
    refine au rfl (by rfl) (by rfl) (fun K hK=>?_);go_simp;refine (Gv _ g en N _ jN.out.1 HN.out SR ((HG.out.fresh cU.out).fresh aW)).mono ?_;rintro e w4 ⟨ob,ts,rfl,TI,gR⟩;have bF:ag [] w3 w4:=aW.tr gR;refine hK.out _ _ (fun _=>bF) ?_;clear hK K aW gR
    try simp only[Qe,Z1,Z2,Z3,Z4,Z5,Z6]
    repeat (refine ai (v:=?_) rfl (by rfl) (by rfl) (fun _ _ _ h=>h) bF (fun w' aI=>?_) ?_;rotate_left;(focus (skip;clear aI;go_simp;try with_reducible rfl));simp only[Qe,Z1,Z2,Z3,Z4,Z5,Z6])
    refine aC ?_;rw[Cl nN.out (Plain.bM jN.out.2.2.1) HE.out HN.out] at TI;have HNS:=lh TI;have iO:=lh (cU.out.tr bF);clear TI bF ce' x0 x1 y0 y1;go_wp2;refine bodyPost_ret (v:=.tuple #[.slice (some ⟨ob,0,none⟩) N N,.int .i64 0]) (by simp[results,Tryz.results38,go_sem]) rfl ?_;have HDF:=lh (show Plain.kh g p=some (Plain.Tm g (en:Int)) from by unfold Plain.kh;rw[if_pos H1.out,HE.out];rfl);refine⟨_,0,_,rfl,Qb (Qb (Qb ⟨H0.out,tC.out,rfl,Plain.fa g p,_,HDF.out,Plain.tK H0.out HE.out (fun v=>?_),rfl⟩)),HNS.out.reads.1,iO.out⟩;constructor
    ·intro hv
     obtain⟨d,hd,e1⟩:=tC.out.2 v hv;have h2:=Plain.aw.1 hd;rw[HE.out,Qa] at h2;rcases Plain.gM g d with ⟨j1,-⟩ | ⟨j1,-⟩
     all_goals grind
    have:=nN.out.ends (en:Int) (by rw[HE.out];simp)
    all_goals grind
   have h2:2<=p.e.length:=by omega
   have fz:((p.e.length:Int)==1)=false:=by rw[beq_eq_false_iff_ne];omega
   clear hN
   go_wp2_with fail
   refine (J7 _ _ g p N _ H0.out HN.out sr (HG.out.fresh cU.out) (HP.out.fresh cU.out)).mono ?_;rintro e w4 ⟨sb,ob,vE,fv,rv,xs,ys,rfl,Dr,La,gR⟩;obtain⟨p1,Mg,iL,hlf⟩:=Plain.OE H0.out tC.out h2 La;have Gp:=lh Dr;have Yk:=lh iL;have ZN:=lh hlf;have HPA:=lh La;have VS:=lh (show Plain.kh g p=(Plain.qt g p.v p.e.length (Plain.mS g p)).map (·.ak) from by grind [Plain.kh]);clear Dr La gR iL hlf x0 x1 y0 y1 dj
   go_wp2_with fail
   go_loopg [8,9] (p.e.length+1) (fun fuel c8 c9 wx=>∃ (fv rv:Value) (xs ys:List Value) (s:Plain.Sk) (p1:Plain.Pt) (Mg:List (List Int)),Dd w3 wx sb ob N g vE fv rv xs ys s/\Plain.zQ g p s p1 Mg/\s.left+2<=p.e.length/\s.left<fuel/\fuel<=p.e.length+1/\Hid (∃ m,s.left<=m/\(Plain.qt g p.v m s).map (·.ak)=Plain.kh g p))
   case atStart=>exact⟨fv,rv,xs,ys,_,p1,Mg,Gp.out,Yk.out,ZN.out,by have:=ZN.out;omega,Qc _,lh ⟨p.e.length,by have:=ZN.out;omega,VS.out.symm⟩⟩
   case round =>
    obtain⟨fv2,rv2,Fq,ys2,s,p2,Oh,Dr,iL,Dv,Az,S1,HM⟩:=hrel;have sT:=lh Dr;have Bu:=lh iL;have yP:=Sd iL;have q4:=Dr.base.q4;obtain⟨ro,rc,hrs⟩:=Dr.rest.shape;subst hrs;have kV:=lh Dr.base.aD;obtain⟨x0,x1,y0,y1,-⟩:=dh.out _ (sY.out.tr kV.out);by_cases hr:s.rest=[]
    ·have EG:s.rest.length=0:=by rw[hr];rfl
     have XL:=lh (show Plain.kh g p=some s.ak from by
      obtain⟨m,-,hm⟩:=HM.out
      grind [Plain.I4])
     have Di:=lh (Plain.BC H0.out tC.out iL hr);rw[EG] at q4;clear Dr iL Dv Az S1 yP hr EG
     go_wp2_with fail
     refine (Ks w3 _ sb ob N vE _ _ _ Fq ys2 g p s Oh sT.out Di.out ((HP.out.fresh cU.out).fresh kV.out)).mono ?_;rintro e w7 ⟨tb,ts,rfl,TI,hc7⟩;have HNS:=lh TI;have pX:=lh ((cU.out.tr kV.out).tr hc7);clear TI hc7 q4 x0 x1 y0 y1;go_wp2;refine bodyPost_ret (v:=.tuple #[.slice (some ⟨tb,0,none⟩) N N,.int .i64 0]) (by simp[results,Tryz.results38,go_sem]) rfl ?_;exact⟨_,0,_,rfl,Qb (Qb (Qb ⟨H0.out,tC.out,rfl,Oh,_,XL.out,Di.out,rfl⟩)),HNS.out.reads.1,pX.out⟩
    have ET:0<s.rest.length:=List.length_pos_iff.2 hr;have SY:=Plain.Mz iL hr;have HR:=lh hr;have ak0:s.rest.length<1000000:=by omega
    have h3:2<p.e.length:=by omega
    clear Dr iL hr
    go_wp2_with fail
    refine (FU sb w3.heap.size _ ys2 s.rest _ ak0 q4 sT.out.rest).mono ?_;rintro e w7 ⟨rfl,rfl⟩;cases dV:Plain.choose s.rest with
    | none =>
     rw[pS dV];have XL:=lh (show Plain.kh g p=none from by
      obtain⟨m,nT,hm⟩:=HM.out;obtain⟨m',rfl⟩:∃ m',m=m'+1:=⟨m - 1,by omega⟩;rw[<-hm,Plain.EI HR.out dV];rfl)
     clear dV;go_wp2;refine bodyPost_ret (v:=.tuple #[.slice none 0 0,.int .i64 8]) (by simp[results,Tryz.results38,go_sem]) rfl ?_;exact⟨_,8,[],rfl,Qb (Qb (Qh ⟨H0.out,tC.out,⟨h3,HPA.out,XL.out⟩,rfl,rfl⟩)),pE _,cU.out.tr kV.out⟩
    | some i =>
     rw[qw dV];obtain⟨hi,hif⟩:=Plain.De HR.out dV;obtain⟨p3,aac,abF,agw⟩:=Plain.Wg H0.out tC.out Bu.out hi hif;have HK3:=lh abF;have Lf:=lh (show ∃ m,(s.put g p.v i).left<=m/\(Plain.qt g p.v m (s.put g p.v i)).map (·.ak)=Plain.kh g p from by
      obtain⟨m,nT,hm⟩:=HM.out;obtain⟨m',rfl⟩:∃ m',m=m'+1:=⟨m - 1,by omega⟩;exact⟨m',by omega,by rw[<-hm,Plain.Fy HR.out dV]⟩)
     have hgp:0<gk:=by omega
     have H8:(s.put g p.v i).left<gk - 1:=by omega
     have Cz:(s.put g p.v i).left+2<=p.e.length:=by omega
     have hg3:gk - 1<=p.e.length+1:=by omega
     clear dV abF q4 x0 x1 y0 y1 Dv Az S1 agw yP ET SY h3
     go_wp2_with fail
     refine (IA w3 _ sb ob N i vE fv2 _ Fq ys2 g p s p2 Oh sT.out H0.out Bu.out hi hif).mono ?_;rintro e w8 ⟨rfl,fv4,rv4,xs4,ys4,hs4⟩;have HS4:=lh hs4;clear hs4 hi hif;go_wp2
     go_roundg (gk - 1)
     case measure=>omega
     case rel=>exact⟨fv4,rv4,xs4,ys4,_,p3,aac,HS4.out,HK3.out,Cz,H8,hg3,Lf⟩
 have jg:=lh h0;have MW:Hid (Plain.zJ g p (p.err g) []):=lh (Qh ⟨h0,rfl,rfl⟩);obtain⟨er,mf⟩:∃ er,p.err g=er:=⟨_,rfl⟩;rw[mf] at MW h0 ⊢;have hb:(er != 0)=true:=by simpa using h0
 have ff:¬ er=0:=h0;clear jg mf;go_wp2;refine bodyPost_ret (v:=.tuple #[.slice none 0 0,.int .i64 er]) (by simp[results,Tryz.results38,go_sem]) rfl ?_;exact⟨_,er,[],rfl,MW.out,pE _,cB.out⟩
end Go.Proofs.YtoiflofhcmjpoaaGreat
-- READS ONLY
namespace Go.Proofs.YtoiflofhcmjpoaaGreat
open Go.RowKit Go.Maps
theorem N6:nh 22 72 (.agg #[.int .i64 0,.int .i64 0]) 2 16:=⟨Tryz.underlying22,by kernel_rfl,rfl,by decide,by decide⟩
def eB:List (Int × Int)->List Value
 | []=>[]
 | x :: l=>.int .i64 x.1 :: .int .i64 x.2 :: eB l
theorem kB:∀ {l:List (Int × Int)} {i:Nat},i<l.length->(eB l)[i*2]?=some (.int .i64 (l.getD i (0,0)).1)/\(eB l)[i*2+1]?=some (.int .i64 (l.getD i (0,0)).2)
 | [],i,h=>by simp at h
 | x :: l,0,_=>⟨rfl,rfl⟩
 | x :: l,i+1,h=>by
  have ih:=kB (l:=l) (i:=i) (by simpa using h);rw[show (i+1)*2=i*2+1+1 by omega];refine⟨?_,?_⟩
  ·show (eB l)[i*2]?=_
   rw[ih.1];rfl
  show (eB l)[i*2+1]?=_;rw[ih.2];rfl
theorem uX (l:List (Int × Int)) (x:Int × Int):eB (l++[x])=eB l++[.int .i64 x.1,.int .i64 x.2]:=by
 induction l with
 | nil=>rfl
 | cons y l ih=>show _ :: _ :: eB (l++[x])=_;rw[ih];rfl
theorem CC {w:World} {B:Nat} {v:Value} {g:Plain.Gr} (hn:aU g.n) (hs:∀ i,i<g.e.length->aU (g.ends i).1/\aU (g.ends i).2) (hl:g.e.length<=100000) (h:w.ownsRow B 72 2 v g.e.length (eB g.e)):dJ w (.agg #[.int .i64 g.n,v]) g:=by
 rcases h.2 with ⟨rfl,h0⟩ | ⟨b,cap,cur,rfl,hb,hh,sU,oP,ja,Vj⟩
 ·exact⟨none,0,by rw[h0],hn,by omega,hs,fun i hi=>by omega⟩
 refine⟨_,cap,rfl,hn,by omega,hs,fun i hi=>⟨b,0,rfl,?_,?_⟩⟩
 ·rw[Qg,cell_of_row w _ (i*2) cur 72 (0,0) hh]
  have q:=(kB hi).1
  grind [Plain.Gr.ends]
 rw[Qg,cell_of_row w _ (i*2+1) cur 72 (0,0) hh];have q:=(kB hi).2
 grind [Plain.Gr.ends]
def fK (a b:Nat):List (Int × Int):=((Qi a).flatMap fun i=>(Qi (4 - i)).map fun k=>((i:Int),((i+1+k:Nat):Int)))++(Qi (b - (a+1))).map fun k=>((a:Int),((a+1+k:Nat):Int))
theorem Bb:∀ a:Nat,a<5->∀ b:Nat,b<5->a<b->fK a (b+1)=fK a b++[((a:Int),(b:Int))]:=by decide
theorem Ey:∀ a:Nat,a<5->fK a 5=fK (a+1) (a+2):=by decide
theorem FR:∀ a:Nat,a<6->∀ b:Nat,b<8->(fK a b).length<=30:=by decide
theorem V3 {w:World} {b:Nat} (h:w.heap[b]?=some (.cells #[.int .i64 0,.int .i64 1,.int .i64 0,.int .i64 1] 72 (0,0))):dJ w (.agg #[.int .i64 2,.slice (some ⟨b,0,none⟩) 2 2]) Plain.gW :=
 CC (g:=Plain.gW) (B:=0) (aU.mk (by decide) (by decide)) (fun i hi=>by
  rcases (show i=0\/i=1 by have:i<2:=hi;omega) with rfl | rfl <;> exact⟨aU.mk (by decide) (by decide),aU.mk (by decide) (by decide)⟩) (by decide) ⟨rfl,Qb ⟨b,2,_,rfl,Nat.zero_le _,h,Qc _,by decide,rfl,rfl⟩⟩
theorem aab (w:World):cf (((w.alloc (.cells #[.int .i64 0,.int .i64 2] 3)).alloc (.cells #[.int .i64 1,.int .i64 3] 3)).alloc (.cells #[.slice (some ⟨w.heap.size,0,none⟩) 2 2,.slice (some ⟨w.heap.size+1,0,none⟩) 2 2] 25)) (.slice (some ⟨w.heap.size+1+1,0,none⟩) 2 2) Plain.tW:=by
 have hs1:(w.alloc (.cells #[.int .i64 0,.int .i64 2] 3)).heap.size=w.heap.size+1:=by simp
 have Dg:((w.alloc (.cells #[.int .i64 0,.int .i64 2] 3)).alloc (.cells #[.int .i64 1,.int .i64 3] 3)).heap.size=w.heap.size+1+1:=by simp
 have l0:=nw w (x:=0) (y:=2) (aU.mk (by decide) (by decide)) (aU.mk (by decide) (by decide));have l1:=nw (w.alloc (.cells #[.int .i64 0,.int .i64 2] 3)) (x:=1) (y:=3) (aU.mk (by decide) (by decide)) (aU.mk (by decide) (by decide));rw[hs1] at l1;have hb:=heap_alloc_new ((w.alloc (.cells #[.int .i64 0,.int .i64 2] 3)).alloc (.cells #[.int .i64 1,.int .i64 3] 3)) (.cells #[.slice (some ⟨w.heap.size,0,none⟩) 2 2,.slice (some ⟨w.heap.size+1,0,none⟩) 2 2] 25);rw[Dg] at hb;have hc:=(ag.refl [] ((w.alloc (.cells #[.int .i64 0,.int .i64 2] 3)).alloc (.cells #[.int .i64 1,.int .i64 3] 3))).alloc (.cells #[.slice (some ⟨w.heap.size,0,none⟩) 2 2,.slice (some ⟨w.heap.size+1,0,none⟩) 2 2] 25);have gO:=((ag.refl [] (w.alloc (.cells #[.int .i64 0,.int .i64 2] 3))).alloc (.cells #[.int .i64 1,.int .i64 3] 3)).t hc;refine⟨_,2,rfl,by decide,fun i hi=>?_⟩;rcases (show i=0\/i=1 by have:i<2:=hi;omega) with rfl | rfl
 ·exact⟨_,0,_,rfl,(cell_of_row _ _ 0 _ _ _ hb).trans rfl,⟨_,2,2,rfl,Qc _,by decide⟩,l0.fresh gO⟩
 exact⟨_,0,_,rfl,(cell_of_row _ _ 1 _ _ _ hb).trans rfl,⟨_,2,2,rfl,Qc _,by decide⟩,l1.fresh hc⟩
namespace Plain
theorem Vb {err:Int} {t:List (List Int)} (h:zJ gW pW err t):err=0/\t=tW:=by
 rcases h with ⟨h,-⟩ | ⟨-,h,-⟩ | ⟨-,-,⟨h,-⟩,-⟩ | ⟨-,-,h,aa,F,-,hF,ht⟩
 ·exact absurd ZE h
 ·exact absurd Xx h
 ·exact absurd h (by decide)
 exact⟨h,by rw[ht];exact Ku hF.nQ⟩
theorem U7 {err:Int} {t:List (List Int)} (h:zJ gK pK err t):err=8:=by
 rcases h with ⟨h,-⟩ | ⟨-,h,-⟩ | ⟨-,-,-,h,-⟩ | ⟨-,-,-,aa,F,-,hF,-⟩
 ·exact absurd WM h
 ·exact absurd U1 h
 ·exact h
 exact absurd hF Nu
end Plain
set_option maxRecDepth 100000 in
set_option maxHeartbeats 4000000 in
theorem Cx (w:World):Calls Tryz.prog 63 #[] w fun e w'=>∃ v,e=.returned v/\dJ w' v Plain.gK/\ag [] w w':=by
 have iQ:=lh (show ag [] w ((w.alloc (.cells #[.int .i64 0,.slice none 0 0] 24)).alloc (.cells #[.int .i64 5,.slice none 0 0] 24)) from (show ag [] w ((w.alloc (.cells #[.int .i64 0,.slice none 0 0] 24)).alloc (.cells #[.int .i64 5,.slice none 0 0] 24)) from (((ag.refl [] w).alloc _).alloc _)));have dk:=heap_alloc_new w (.cells #[.int .i64 0,.slice none 0 0] 24);replace dk:=(show ag [] (w.alloc (.cells #[.int .i64 0,.slice none 0 0] 24)) ((w.alloc (.cells #[.int .i64 0,.slice none 0 0] 24)).alloc (.cells #[.int .i64 5,.slice none 0 0] 24)) from ((ag.refl [] (w.alloc (.cells #[.int .i64 0,.slice none 0 0] 24))).alloc _)).heap dk (by simp);have gX:=heap_alloc_new (w.alloc (.cells #[.int .i64 0,.slice none 0 0] 24)) (.cells #[.int .i64 5,.slice none 0 0] 24);rw[show (w.alloc (.cells #[.int .i64 0,.slice none 0 0] 24)).heap.size=w.heap.size+1 by simp] at gX;have HX:=lh (fun (w2:World) (eh:ag [] ((w.alloc (.cells #[.int .i64 0,.slice none 0 0] 24)).alloc (.cells #[.int .i64 5,.slice none 0 0] 24)) w2)=>(⟨eh.heap dk (by simp),eh.heap gX (by simp),by have hz:=eh.size;simpa using hz⟩:w2.heap[w.heap.size]?=some (.cells #[.int .i64 0,.slice none 0 0] 24 (0,0))/\w2.heap[w.heap.size+1]?=some (.cells #[.int .i64 5,.slice none 0 0] 24 (0,0))/\w.heap.size+2<=w2.heap.size));clear dk gX;have Gc:=lh (show ((w.alloc (.cells #[.int .i64 0,.slice none 0 0] 24)).alloc (.cells #[.int .i64 5,.slice none 0 0] 24)).heap.size=w.heap.size+2 by simp);obtain⟨ra,rb,dj⟩:=HX.out _ (ag.refl _ _)
 go_enter Tryz.func63,Tryz.ntmps63
 go_wp2_with fail
 generalize ((w.alloc (.cells #[.int .i64 0,.slice none 0 0] 24)).alloc (.cells #[.int .i64 5,.slice none 0 0] 24))=w1 at *;obtain⟨ab,qi⟩:∃ n,w.heap.size=n:=⟨_,rfl⟩;rw[qi] at ra rb dj ⊢;have RA:=lh ra;have RB:=lh rb;have HAB:=lh qi;clear qi ra rb
 go_loopw [2,3] (fun c _ wr=>∃ a:Nat,a<=5/\c=.int .i64 a/\∃ v,wr.heap[ab+1]?=some (.cells #[.int .i64 5,v] 24 (0,0))/\wr.ownsRow w1.heap.size 72 2 v (fK a (a+1)).length (eB (fK a (a+1)))/\ag [ab+1] w1 wr) (fun c _ _=>5 - (intOf c).toNat)
 case atStart=>exact⟨0,by omega,rfl,_,RB.out,World.ownsRow_nil _ _ _ _,ag.refl _ _⟩
 case round =>
  obtain⟨a,ha,rfl,v,hh,ho,hc⟩:=hrel;have HH:=lh hh;have HO:=lh ho;have HC:=lh hc;clear hh ho hc;by_cases aL:a<5
  ·have hai:(a:Int)<5:=by omega
   go_wp2_with fail
   go_loopw [3] (fun c wr=>∃ b:Nat,a<b/\b<=5/\c=.int .i64 b/\∃ v,wr.heap[ab+1]?=some (.cells #[.int .i64 5,v] 24 (0,0))/\wr.ownsRow w1.heap.size 72 2 v (fK a b).length (eB (fK a b))/\ag [ab+1] w1 wr) (fun c _=>5 - (intOf c).toNat)
   case atStart=>exact⟨a+1,by omega,by omega,by go_num,v,HH.out,HO.out,HC.out⟩
   case round =>
    obtain⟨b,fz,ff,rfl,v2,hh,ho,hc⟩:=hrel;have HH2:=lh hh;have Xw:=lh ho;have cB:=lh hc;clear HH HO HC;by_cases jj:b<5
    ·have LF:(b:Int)<5:=by omega
     have c1:=(cell_of_row _ _ 1 _ _ _ hh).trans (show _=some v2 from rfl);have zV:=lh (FR a (by omega) b (by omega));have Gl:=lh (Bb a aL b jj fz);have HB1:=lh hc.size;obtain⟨ao,cp,rfl⟩:=bk ho;have Tt:=lh (show ab+1 ∉ (Qf ao (fK a b).length cp).ownBlock.toList from fun q=>by
      have h1:=(ho.lt (ab+1) (by simpa using q)).1;omega)
     obtain⟨L,hL⟩:∃ L,fK a b=L:=⟨_,rfl⟩;rw[hL] at zV Gl Tt Xw c1 HH2;have GD:L.length<=30:=zV.out;have KP:=bJ HH2.out 1;clear hh ho hc hL
     go_wp2_with (at_builtin;refine oK N6 rfl _ _ rfl (v:=.slice ao L.length cp) (B:=w1.heap.size) (cs:=#[.int .i64 a,.int .i64 b]) rfl rfl rfl Xw.out HB1.out rfl (by intro u hu;simp at hu;rcases hu with rfl | rfl <;> rfl) (by omega) ?_;intro g' eP w' r1 r2 r3;have R1:=lh r1;have R2:=lh r2;have c1':=r2.cell c1 Tt.out;have f1':=bJ (r2.heap HH2.out Tt.out) 1;clear r1 r2 r3)
     have hh3:=R2.out.heap HH2.out Tt.out;have aJ:=R1.out;have hk:bp w' (ab+1) 24:=⟨_,_,hh3⟩;have Wd:=bE aJ (b:=g') rfl;have aZ:ag [ab+1] w' (w'.setCell ⟨ab+1,1,none⟩ (.slice (some ⟨g',0,none⟩) (L.length+1) eP)):=(ag.refl _ _).setCell (Qh (by simp)) _;refine⟨⟨b+1,by omega,by omega,by go_num,_,heap_setCell_same hh3 1 _,?_,?_⟩,by simp[intOf];omega⟩
     ·rw[Gl.out,uX,List.length_append]
      exact aY aJ aZ (fun j hj=>by
       have e:g'=j:=by simpa[Value.ownBlock] using hj
       rw[Qa,<-e];exact Wd.ne hk (by decide))
     exact (cB.out.trans R2.out (fun j hj=>Qb (Xw.out.lt j (by simpa using hj)).1)).trans aZ (fun j hj=>Qh hj)
    have e:b=5:=by omega
    subst e;have bt:=lh (Ey a aL);rw[bt.out] at Xw;clear jj
    go_wp2_with fail
    exact⟨⟨a+1,by omega,by go_num,v2,HH2.out,Xw.out,cB.out⟩,by simp[intOf];omega⟩
  have e:a=5:=by omega
  subst e;have h0:=HC.out.heap RA.out (by simp);have c0:=(cell_of_row _ _ 0 _ _ _ HH.out).trans (show _=some (Qj .i64 5) from rfl);have c1:=(cell_of_row _ _ 1 _ _ _ HH.out).trans (show _=some v from rfl);have a0:=(cell_of_row _ _ 0 _ _ _ h0).trans (show _=some (Qj .i64 0) from rfl);have a1:=(cell_of_row _ _ 1 _ _ _ h0).trans (show _=some (Qf none 0 0) from rfl);have f0:=bJ h0 0;have f1:=bJ h0 1;obtain⟨ao,cp,rfl⟩:=bk HO.out;clear aL ha;go_wp2;have sV:=heap_setCell_same (heap_setCell_same h0 0 (.int .i64 5)) 1 (.slice ao (fK 5 6).length cp);have z0:=(cell_of_row _ _ 0 _ _ _ sV).trans (show _=some (Qj .i64 5) from rfl);have z1:=(cell_of_row _ _ 1 _ _ _ sV).trans (show _=some (Qf ao (fK 5 6).length cp) from rfl);have aZ:ag [ab] wr ((wr.setCell ⟨ab,0,none⟩ (.int .i64 5)).setCell ⟨ab,1,none⟩ (.slice ao (fK 5 6).length cp)):=((ag.refl _ _).setCell (Qh (by simp)) _).setCell (Qh (by simp)) _;generalize (wr.setCell ⟨ab,0,none⟩ (.int .i64 5)).setCell ⟨ab,1,none⟩ (.slice ao (fK 5 6).length cp)=w9 at *;refine bodyPost_ret (v:=.agg #[.int .i64 5,.slice ao (fK 5 6).length cp]) (by simp[results,Tryz.results63,go_sem,z0,z1]) rfl ?_;have aJ:=aY HO.out aZ (fun j hj hm=>by
   have h1:=(HO.out.lt j hj).1;rw[Qa] at hm;omega)
  refine⟨_,rfl,CC (g:=Plain.gK) (B:=w1.heap.size) (aU.mk (by decide) (by decide)) (fun i hi=>?_) (by decide) aJ,?_⟩
  ·have h1:=(show ∀ i,i<10->(0<=(Plain.gK.ends i).1/\(Plain.gK.ends i).1<5)/\0<=(Plain.gK.ends i).2/\(Plain.gK.ends i).2<5 by decide) i hi
   exact⟨aU.mk (by omega) (by omega),aU.mk (by omega) (by omega)⟩
  refine (iQ.out.trans HC.out (fun j hj=>Qb ?_)).trans aZ (fun j hj=>Qb ?_)
  ·rw[Qa.1 hj,HAB.out];omega
  rw[Qa.1 hj,HAB.out];exact Qc _
set_option maxRecDepth 100000 in
set_option maxHeartbeats 4000000 in
theorem rZ (w:World):Calls Tryz.prog 26 #[] w fun e w'=>e=.returned (.bool true)/\ag [] w w':=by
 have iQ:=lh (show ag [] w ((w.alloc (.cells #[.int .i64 0,.int .i64 1,.int .i64 0,.int .i64 1] 72)).alloc (.cells #[.int .i64 2,.slice (some ⟨w.heap.size,0,none⟩) 2 2] 24)) from (show ag [] w ((w.alloc (.cells #[.int .i64 0,.int .i64 1,.int .i64 0,.int .i64 1] 72)).alloc (.cells #[.int .i64 2,.slice (some ⟨w.heap.size,0,none⟩) 2 2] 24)) from (((ag.refl [] w).alloc _).alloc _)));have dk:=heap_alloc_new w (.cells #[.int .i64 0,.int .i64 1,.int .i64 0,.int .i64 1] 72);replace dk:=(show ag [] (w.alloc (.cells #[.int .i64 0,.int .i64 1,.int .i64 0,.int .i64 1] 72)) ((w.alloc (.cells #[.int .i64 0,.int .i64 1,.int .i64 0,.int .i64 1] 72)).alloc (.cells #[.int .i64 2,.slice (some ⟨w.heap.size,0,none⟩) 2 2] 24)) from ((ag.refl [] (w.alloc (.cells #[.int .i64 0,.int .i64 1,.int .i64 0,.int .i64 1] 72))).alloc _)).heap dk (by simp);have gX:=heap_alloc_new (w.alloc (.cells #[.int .i64 0,.int .i64 1,.int .i64 0,.int .i64 1] 72)) (.cells #[.int .i64 2,.slice (some ⟨w.heap.size,0,none⟩) 2 2] 24);rw[show (w.alloc (.cells #[.int .i64 0,.int .i64 1,.int .i64 0,.int .i64 1] 72)).heap.size=w.heap.size+1 by simp] at gX;have HX:=lh (fun (w2:World) (eh:ag [] ((w.alloc (.cells #[.int .i64 0,.int .i64 1,.int .i64 0,.int .i64 1] 72)).alloc (.cells #[.int .i64 2,.slice (some ⟨w.heap.size,0,none⟩) 2 2] 24)) w2)=>(⟨eh.heap dk (by simp),eh.c ((cell_of_row _ _ 0 _ _ _ gX).trans rfl),eh.c ((cell_of_row _ _ 1 _ _ _ gX).trans rfl),by have hz:=eh.size;simpa using hz⟩:w2.heap[w.heap.size]?=some (.cells #[.int .i64 0,.int .i64 1,.int .i64 0,.int .i64 1] 72 (0,0))/\w2.cell? ⟨w.heap.size+1,0,none⟩=some (.int .i64 2)/\w2.cell? ⟨w.heap.size+1,1,none⟩=some (.slice (some ⟨w.heap.size,0,none⟩) 2 2)/\w.heap.size+2<=w2.heap.size));clear dk gX;have Gc:=lh (show ((w.alloc (.cells #[.int .i64 0,.int .i64 1,.int .i64 0,.int .i64 1] 72)).alloc (.cells #[.int .i64 2,.slice (some ⟨w.heap.size,0,none⟩) 2 2] 24)).heap.size=w.heap.size+2 by simp);obtain⟨re,g0,g1,-⟩:=HX.out _ (ag.refl _ _)
 go_enter Tryz.func26,Tryz.ntmps26
 go_wp2_with fail
 generalize ((w.alloc (.cells #[.int .i64 0,.int .i64 1,.int .i64 0,.int .i64 1] 72)).alloc (.cells #[.int .i64 2,.slice (some ⟨w.heap.size,0,none⟩) 2 2] 24))=w1 at *;have HGW:=lh (V3 re);clear re;have aW:ag [] w1 w1.drew:=(ag.refl [] w1).drew;refine ar (ag [] w1) [0,1,4,5,6,7,8] (Way.line [0,1,2,3,4,5,6,7,8] .done) (by kernel_rfl) (by kernel_rfl) ?_;simp only[Way.line]
 repeat (refine ai (v:=?_) rfl (by rfl) (by rfl) (fun _ _ _ h=>h) aW (fun w' aI=>?_) ?_;rotate_left;(focus (have gB:=aI.c g0;have gQ:=aI.c g1;clear aI;go_simp;try with_reducible rfl));simp only[Qe,Z1,Z2,Z3,Z4,Z5,Z6])
 refine au rfl (by rfl) (by rfl) (fun K hK=>?_);go_simp;refine (xW _ Plain.gW 2 _ rfl (by decide) (by decide) (HGW.out.fresh aW)).mono ?_;rintro e w2 ⟨v1,v2,rfl,r1,r2,bA⟩;have bF:ag [] w1 w2:=aW.t bA;refine hK.out _ _ (fun _=>bF) ?_;clear hK K aW bA
 try simp only[Qe,Z1,Z2,Z3,Z4,Z5,Z6]
 repeat (refine ai (v:=?_) rfl (by rfl) (by rfl) (fun _ _ _ h=>h) bF (fun w' aI=>?_) ?_;rotate_left;(focus (have gB:=aI.c g0;have gQ:=aI.c g1;clear aI;go_simp;try with_reducible rfl));simp only[Qe,Z1,Z2,Z3,Z4,Z5,Z6])
 refine au rfl (by rfl) (by rfl) (fun K hK=>?_);go_simp;refine (yt _ _ Plain.gW Plain.pW _ (by decide) (HGW.out.fresh bF) ⟨v1,v2,rfl,r1.ints,r2.ints⟩).mono ?_;rintro e w3 ⟨v3,err,t,rfl,Vt,hrows,cT⟩;obtain⟨rfl,rfl⟩:=Plain.Vb Vt;have jl:ag [] w1 w3:=bF.t cT;have Tk:=lh hrows;obtain⟨ro,rc,rfl,-,-⟩:=hrows;refine hK.out _ _ (fun _=>jl) ?_;clear hK K cT
 try simp only[Qe,Z1,Z2,Z3,Z4,Z5,Z6]
 repeat (refine ai (v:=?_) rfl (by rfl) (by rfl) (fun _ _ _ h=>h) jl (fun w' aI=>?_) ?_;rotate_left;(focus (have gB:=aI.c g0;have gQ:=aI.c g1;clear aI;go_simp;try with_reducible rfl));simp only[Qe,Z1,Z2,Z3,Z4,Z5,Z6])
 refine aC ?_;have sT:=lh jl;clear bF jl r1 r2 Vt g0 g1
 go_wp2_with fail
 refine (Cx _).mono ?_;rintro e w4 ⟨v4,rfl,hg4,gR⟩;have HG4:=lh hg4;have iO:=lh (sT.out.t gR);have AG:=lh (Tk.out.fresh gR);clear gR hg4
 go_wp2_with fail
 refine (Cx _).mono ?_;rintro e w5 ⟨v5,rfl,hg5,eO⟩;have HG5:=lh hg5;have agE:=lh (HG4.out.fresh eO);have ga:=lh (iO.out.t eO);have uk:=lh (AG.out.fresh eO);clear eO hg5
 go_wp2_with fail
 refine (xW _ Plain.gK 5 _ rfl (by decide) (by decide) HG5.out).mono ?_;rintro e w6 ⟨v6,v7,rfl,r6,r7,hc6⟩;have xo:=lh (show fL w6 (.agg #[v6,v7]) Plain.pK from⟨v6,v7,rfl,r6.ints,r7.ints⟩);have HG6:=lh (agE.out.fresh hc6);have ky:=lh (ga.out.t hc6);have O6:=lh (uk.out.fresh hc6);clear hc6 r6 r7
 go_wp2_with fail
 refine (yt _ _ Plain.gK Plain.pK _ (by decide) HG6.out xo.out).mono ?_;rintro e w7 ⟨v8,err,t,rfl,Vt,-,hc7⟩;obtain rfl:=Plain.U7 Vt;have pX:=lh (ky.out.t hc7);have OT:=lh (O6.out.fresh hc7);clear hc7 Vt
 go_wp2_with fail
 have Cg:=aab w7;have mm:=(((ag.refl [] w7).alloc (.cells #[.int .i64 0,.int .i64 2] 3)).alloc (.cells #[.int .i64 1,.int .i64 3] 3)).alloc (.cells #[.slice (some ⟨w7.heap.size,0,none⟩) 2 2,.slice (some ⟨w7.heap.size+1,0,none⟩) 2 2] 25);have DB:=lh (pX.out.t mm);refine (kC _ _ Plain.tW Plain.tW _ (OT.out.fresh mm) Cg).mono ?_;rintro e w9 ⟨rfl,hc9⟩;have AN:=lh (DB.out.t hc9);have Fp:decide (Plain.tW=Plain.tW)=true:=by simp
 rw[Fp];clear hc9 Cg mm;go_wp2;go_ret;exact⟨rfl,iQ.out.t AN.out⟩
end Go.Proofs.YtoiflofhcmjpoaaGreat
