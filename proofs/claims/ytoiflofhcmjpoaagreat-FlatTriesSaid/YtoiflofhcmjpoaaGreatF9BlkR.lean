/- What draw.Block answers, in plain words; the turns are told by the ak. No program here. -/
import Derived.Test.YtoiflofhcmjpoaaGreatF9PutW
import Derived.Test.YtoiflofhcmjpoaaGreatF9TurnsW
set_option maxRecDepth 100000
set_option maxHeartbeats 8000000
open List renaming mem_singleton→Qa,mem_cons_of_mem→Qb,mem_cons→Qc,flatMap_cons→Qd,mem_flatMap→Qe,getElem?_eq_getElem→Qf,not_mem_nil→Qg,nodup_cons→Qh,flatten_append→Ql,flatMap_append→Qm,flatten_cons→Qo,Perm→Qp,perm_middle→Qq,flatten_nil→Qr,append_nil→Qs,range→Qt
open Or renaming inr→Qi
open Bool renaming xor_false→Qj,false_xor→Qk,xor_assoc→Qu
open Nat renaming zero_add→Qn
open Go.Act renaming put→Qv
namespace Go.Proofs.YtoiflofhcmjpoaaGreat.Plain
variable {g:Gr} {p:Pt}
def Zn (g:Gr) (e:Int):List (List Int):=if (g.at e).1=(g.at e).2 then [[2*e],[2*e+1]] else [[2*e,2*e+1]]
def kj (g:Gr) (b:Pt):Option (List (List Int)):=if b.e.length=1 then some (Zn g (b.e.getD 0 0)) else (oI g b.v b.e.length (gI g b)).map (·.ak)
def jB (g:Gr) (b:Pt) (err:Int) (t:List (List Int)):Prop :=
 (b.err g≠0/\err=b.err g/\t=[])\/(b.err g=0/\¬ cg g b/\err=10/\t=[])\/(b.err g=0/\cg g b/\(2<b.e.length/\rT g b/\kj g b=none)/\err=8/\t=[]) \/
  (b.err g=0/\cg g b/\err=0/\∃ aa F,kj g b=some F/\cQ g b aa F/\t=aa.map first)
theorem jB.bad {err:Int} {t:List (List Int)} (h:jB g p err t) (h0:p.err g≠0):err=p.err g/\t=[]:=by
 rcases h with ⟨-,h1,h2⟩ | ⟨h,-⟩ | ⟨h,-⟩ | ⟨h,-⟩
 ·exact⟨h1,h2⟩
 ·exact absurd h h0
 ·exact absurd h h0
 exact absurd h h0
theorem jB.split {err:Int} {t:List (List Int)} (h:jB g p err t) (h0:p.err g=0) (hs:¬ cg g p):err=10/\t=[]:=by
 rcases h with ⟨h,-⟩ | ⟨-,-,h1,h2⟩ | ⟨-,h,-⟩ | ⟨-,h,-⟩
 ·exact absurd h0 h
 ·exact⟨h1,h2⟩
 ·exact absurd h hs
 exact absurd h hs
theorem yp (h0:p.err g=0) (hs:cg g p):p.v≠[]:=λq=>by
 obtain⟨e,l,he,-⟩:=hs.1;have:=((Pt.ax h0).ends e (by rw[he];simp)).1;rw[q] at this;simp at this
end Go.Proofs.YtoiflofhcmjpoaaGreat.Plain
-- READS ONLY
namespace Go.Proofs.YtoiflofhcmjpoaaGreat
open Go.RowKit Go.Maps
variable {B n e N:Nat} {g:Plain.Gr} {b p:Plain.Pt}
theorem zK (w:World):fY w (.slice none 0 0) []:=⟨none,0,rfl,by simp,by simp⟩
theorem bN.reads {w:World} {ov:Value} {xs:List Value} {ll:List (List Int)} (h:bN w B 25 1 ov n xs (ll.map Cell.row)):fY w ov ll/\n=ll.length:=by
 have hn:n=ll.length:=by
  have h1:=h.len;have h2:=h.cells
  grind
 subst hn;refine⟨?_,rfl⟩;obtain⟨ao,c,e⟩:=h.shape;have oK:ll.length<=9223372036854775807:=by
  rcases h.out.2 with ⟨-,q⟩ | ⟨g',c',cur,q,-,-,h3,h4,-⟩
  ·omega
  simp[maxLen] at h4;omega
 refine⟨ao,c,e,oK,λi hi=>?_⟩;have AI:xs.length=ll.length:=by have:=h.cells;omega
 obtain⟨g',c',e2⟩:=h.some (by omega);rw[e2] at e h;simp only[Value.slice.injEq] at e;have hr:=h.row (k:=i) (l:=ll.getD i []) (by grind);refine⟨g',0,xs.getD i undef,e.1.symm,by rw[Qn];exact h.cell (by omega),?_,hr.ints⟩;rcases hr.1.2 with ⟨q,-⟩ | ⟨g2,c2,cur,q,-,-,h3,h4,-⟩
 ·rw[q];exact⟨none,0,0,rfl,by simp,by simp⟩
 exact⟨_,_,_,q,h3,by simpa[maxLen] using h4⟩
theorem Xn {s:Plain.Sk} {aa:List (List Int)} (h:Plain.tV g b s p aa):s.rest.length<=s.left:=by
 unfold Plain.Sk.left;refine Plain.nP (f:=λc:Plain.bh=>c.ag) λr hr=>?_;have h2:=(h.mL r hr).two;obtain⟨v,hv⟩:=List.exists_mem_of_length_pos (l:=r.ends) (by omega);rw[(h.mL r hr).ends] at hv
 grind [Plain.bB]
theorem FL (_hp:Plain.aD g p) (hr:p.e.Pairwise (·<·)) (he:p.e=[(e:Int)]) (hN:g.n=N):mg g e 2 N=((Plain.gq g p).map Plain.first).map Cell.row:=by
 refine List.ext_getElem (by simp[mg,Plain.gq,hN]) λi h1 h2=>?_;simp only[mg,Plain.gq,List.getElem_map,List.getElem_range];rw[Plain.Uj he];congr 1
 symm;refine Plain.ED λk hk=>?_;have hs:(Plain.aE g p i).Pairwise (·<·):=(Plain.jH hr).filter _;rcases Nat.eq_zero_or_pos k with q | q
 ·rw[q];exact Int.le_refl _
 have h0:0<(Plain.aE g p i).length:=by omega
 have:=(List.pairwise_iff_getElem.1 hs) 0 k h0 hk q;simp only[List.getD,Qf h0,Qf hk,Option.getD_some];omega
theorem Ng (vg vp:Value) (g:Plain.Gr) (p:Plain.Pt) (w:World) (mE:p.v.length<=100000) (hg:cA w vg g) (hp:dt w vp p) :
  Calls Tryz.prog 38 #[vg,vp] w λe w'=>∃ v err t,e=.returned (.tuple #[v,.int .i64 err])/\Plain.jB g p err t/\fY w' v t/\ai [] w w':=by
 obtain⟨eo,cap,ao,ac,bo,bc,rfl,rfl,HG,HP,hm,uJ,oJ,pU,nG,xL,uD,aY,bm⟩:=eF hg hp;clear hg hp;obtain⟨x0,x1,y0,y1,bs⟩:=bm.out _ (ai.refl _ _);go_enter Tryz.func38,Tryz.ntmps38;go_wp2_with fail;obtain⟨w1,gu⟩:∃ w1,((w.alloc (.cells #[.int .i64 g.n,.slice eo g.e.length cap] 24)).alloc (.cells #[.slice ao p.v.length ac,.slice bo p.e.length bc] 27))=w1:=⟨_,rfl⟩;rw[gu] at aY bm ⊢;clear gu x0 x1 y0 y1 bs;refine (jP _ _ g p _ (by omega) (HG.out.fresh aY.out) (HP.out.fresh aY.out)).mono ?_;rintro e w2 ⟨rfl,bI⟩;have bU:=lh (aY.out.tr bI);have aaE:=lh bI;obtain⟨x0,x1,y0,y1,bs⟩:=bm.out _ bI;clear bI;by_cases h0:p.err g=0
 ·rw[h0]
  have H0:=lh h0;clear h0;go_wp2_with fail;refine (IL _ _ g p _ mE (HG.out.fresh bU.out) (HP.out.fresh bU.out)).mono ?_;rintro e w3 ⟨rfl,dK⟩;have b8:=lh (bU.out.tr dK);have S4:=lh (aaE.out.tr dK);clear dK x0 x1 y0 y1 bs;obtain⟨x0,x1,y0,y1,bs⟩:=bm.out _ S4.out;cases hs:Plain.mn g p with
  | false =>
   have Y3:¬ Plain.cg g p:=λq=>by rw[Plain.lp.2 ⟨H0.out,q⟩] at hs;cases hs
   clear hs;go_wp2;refine bodyPost_ret (v:=.tuple #[.slice none 0 0,.int .i64 10]) (by simp[results,Tryz.results38,go_sem]) rfl ?_;exact⟨_,10,[],rfl,Qi (Or.inl ⟨H0.out,Y3,rfl,rfl⟩),zK _,b8.out⟩
  | true =>
   have abm:Plain.cg g p:=(Plain.lp.1 hs).2;have El:=lh abm;have lZ:0<p.e.length:=by
    obtain⟨e0,l,he,-⟩:=abm.1;rw[he];simp
   clear hs abm;have ni:=lh (Plain.Pt.ax H0.out);have Ip:=lh (Plain.Pt.aF H0.out);have fB:=lh (Plain.Gr.aF Ip.out.1);obtain⟨N,hN⟩:∃ N:Nat,g.n=N:=⟨g.n.toNat,by have:=fB.out.1;omega⟩;have HN:=lh hN;have iM:p.e.length<=1024:=by
    have h1:=ep Ip.out.2.2.1;have h2:=fB.out.2.2.1
    grind
   by_cases h1:p.e.length=1
   ·have H1:=lh h1
    obtain⟨e,he⟩:∃ e,p.e=[e]:=List.length_eq_one_iff.1 h1;have wO:0<=e/\e<g.e.length:=by
     have:=Plain.cG Ip.out.2.2.1 (i:=0) (by omega)
     grind
    obtain⟨en,lJ⟩:∃ en:Nat,e=en:=⟨e.toNat,by omega⟩;subst lJ;have HE:=lh he;have WD:en<g.e.length:=by omega
    obtain⟨bb,eO,rfl,oG⟩:=nG.out (by grind);have ce:=b8.out.bO (oG 0 (by omega));rw[he,Nat.add_zero] at ce;have iz:((p.e.length:Int)==1)=true:=by rw[h1];rfl
    have H':0<p.e.length:=lZ;have ce':w3.cell? ⟨bb,eO,none⟩=some (.int .i64 (en:Nat)):=ce;clear oG he wO ce hN;go_wp2_with fail;have aG:ai [] w3 w3.drew:=(ai.refl [] w3).drew;refine al (ai [] w3) [0,1,2,3,4,6,7] (Way.line [0,1,2,3,4,5,6,7] .done) (by kernel_rfl) (by kernel_rfl) ?_;simp only[Way.line]
    repeat (refine aj (v:=?_) rfl (by rfl) (by rfl) (λ_ _ _ h=>h) aG (λw' aB=>?_) ?_;rotate_left;(focus (have fE:=aB.c x0;have fV:=aB.c x1;have kD:=aB.c y0;have tq:=aB.c y1;have MD:=aB.c ce';clear aB;go_simp;try with_reducible rfl));simp only[Qv,Z1,Z2,Z3,Z4,Z5,Z6])
    refine aq rfl (by rfl) (by rfl) (λK hK=>?_);go_simp;refine (Jt _ g en N _ Ip.out.1 HN.out WD ((HG.out.fresh b8.out).fresh aG)).mono ?_;rintro e w4 ⟨ob,ts,rfl,Y3,gX⟩;have bH:ai [] w3 w4:=aG.tr gX;refine hK.out _ _ (λ_=>bH) ?_;clear hK K aG gX;try simp only[Qv,Z1,Z2,Z3,Z4,Z5,Z6]
    repeat (refine aj (v:=?_) rfl (by rfl) (by rfl) (λ_ _ _ h=>h) bH (λw' aB=>?_) ?_;rotate_left;(focus (skip;clear aB;go_simp;try with_reducible rfl));simp only[Qv,Z1,Z2,Z3,Z4,Z5,Z6])
    refine ar ?_;rw[FL ni.out (Plain.bK Ip.out.2.2.1) HE.out HN.out] at Y3;have HNS:=lh Y3;have eW:=lh (b8.out.tr bH);clear Y3 bH ce' x0 x1 y0 y1;go_wp2;refine bodyPost_ret (v:=.tuple #[.slice (some ⟨ob,0,none⟩) N N,.int .i64 0]) (by simp[results,Tryz.results38,go_sem]) rfl ?_;have HDF:=lh (show Plain.kj g p=some (Plain.Zn g (en:Int)) from by unfold Plain.kj;rw[if_pos H1.out,HE.out];rfl);refine⟨_,0,_,rfl,Qi (Qi (Qi ⟨H0.out,El.out,rfl,Plain.gq g p,_,HDF.out,Plain.zS H0.out HE.out (λv=>?_),rfl⟩)),HNS.out.reads.1,eW.out⟩;constructor
    ·intro hv
     obtain⟨d,hd,e1⟩:=El.out.2 v hv;have h2:=Plain.au.1 hd;rw[HE.out,Qa] at h2;rcases Plain.iO g d with ⟨j1,-⟩ | ⟨j1,-⟩
     all_goals grind
    have:=ni.out.ends (en:Int) (by rw[HE.out];simp)
    all_goals grind
   have h2:2<=p.e.length:=by omega
   have iz:((p.e.length:Int)==1)=false:=by rw[beq_eq_false_iff_ne];omega
   clear hN;go_wp2_with fail;refine (Nv _ _ g p N _ H0.out HN.out lZ (HG.out.fresh b8.out) (HP.out.fresh b8.out)).mono ?_;rintro e w4 ⟨sb,ob,vE,fv,rv,xs,ys,rfl,Iv,zR,gX⟩;obtain⟨p1,SM,kL,hlf⟩:=Plain.EO H0.out El.out h2 zR;have PN:=lh Iv;have Ve:=lh kL;have HLF:=lh hlf;have HPA:=lh zR;have EB:=lh (show Plain.kj g p=(Plain.oI g p.v p.e.length (Plain.gI g p)).map (·.ak) from by grind [Plain.kj]);clear Iv zR gX kL hlf x0 x1 y0 y1 bs;go_wp2_with fail;go_loopg [8,9] (p.e.length+1) (λfuel c8 c9 wx=>∃ (fv rv:Value) (xs ys:List Value) (s:Plain.Sk) (p1:Plain.Pt) (SM:List (List Int)),GU w3 wx sb ob N g vE fv rv xs ys s/\Plain.tV g p s p1 SM/\s.left+2<=p.e.length/\s.left<fuel/\fuel<=p.e.length+1/\Hid (∃ m,s.left<=m/\(Plain.oI g p.v m s).map (·.ak)=Plain.kj g p))
   case atStart=>exact⟨fv,rv,xs,ys,_,p1,SM,PN.out,Ve.out,HLF.out,by have:=HLF.out;omega,Nat.le_refl _,lh ⟨p.e.length,by have:=HLF.out;omega,EB.out.symm⟩⟩
   case round =>
    obtain⟨fv2,rv2,SK,ys2,s,p2,PR,Iv,kL,yJ,Cj,hl3,HM⟩:=hrel;have sI:=lh Iv;have Pe:=lh kL;have qX:=Xn kL;have q4:=Iv.base.q4;obtain⟨ro,rc,hrs⟩:=Iv.rest.shape;subst hrs;have xS:=lh Iv.base.aL;obtain⟨x0,x1,y0,y1,-⟩:=bm.out _ (S4.out.tr xS.out);by_cases hr:s.rest=[]
    ·have Da:s.rest.length=0:=by rw[hr];rfl
     have HDN:=lh (show Plain.kj g p=some s.ak from by
      obtain⟨m,-,hm⟩:=HM.out
      grind [Plain.BU])
     have Fu:=lh (Plain.Hu H0.out El.out kL hr);rw[Da] at q4;clear Iv kL yJ Cj hl3 qX hr Da;go_wp2_with fail;refine (Ov w3 _ sb ob N vE _ _ _ SK ys2 g p s PR sI.out Fu.out ((HP.out.fresh b8.out).fresh xS.out)).mono ?_;rintro e w7 ⟨tb,ts,rfl,Y3,hc7⟩;have HNS:=lh Y3;have oT:=lh ((b8.out.tr xS.out).tr hc7);clear Y3 hc7 q4 x0 x1 y0 y1;go_wp2;refine bodyPost_ret (v:=.tuple #[.slice (some ⟨tb,0,none⟩) N N,.int .i64 0]) (by simp[results,Tryz.results38,go_sem]) rfl ?_;exact⟨_,0,_,rfl,Qi (Qi (Qi ⟨H0.out,El.out,rfl,PR,_,HDN.out,Fu.out,rfl⟩)),HNS.out.reads.1,oT.out⟩
    have Jw:0<s.rest.length:=List.length_pos_iff.2 hr;have AT:=Plain.S0 kL hr;have HR:=lh hr;have al1:s.rest.length<1000000:=by omega
    have h3:2<p.e.length:=by omega
    clear Iv kL hr;go_wp2_with fail;refine (Jp sb w3.heap.size _ ys2 s.rest _ al1 q4 sI.out.rest).mono ?_;rintro e w7 ⟨rfl,rfl⟩;cases ij:Plain.choose s.rest with
    | none =>
     rw[uw ij];have HDN:=lh (show Plain.kj g p=none from by
      obtain⟨m,rX,hm⟩:=HM.out;obtain⟨m',rfl⟩:∃ m',m=m'+1:=⟨m - 1,by omega⟩;rw[<-hm,Plain.KI HR.out ij];rfl)
     clear ij;go_wp2;refine bodyPost_ret (v:=.tuple #[.slice none 0 0,.int .i64 8]) (by simp[results,Tryz.results38,go_sem]) rfl ?_;exact⟨_,8,[],rfl,Qi (Qi (Or.inl ⟨H0.out,El.out,⟨h3,HPA.out,HDN.out⟩,rfl,rfl⟩)),zK _,b8.out.tr xS.out⟩
    | some i =>
     rw[tC ij];obtain⟨hi,YK⟩:=Plain.vX HR.out ij;obtain⟨p3,aiI,aia,aon⟩:=Plain.Uq H0.out El.out Pe.out hi YK;have HK3:=lh aia;have ZC:=lh (show ∃ m,(s.put g p.v i).left<=m/\(Plain.oI g p.v m (s.put g p.v i)).map (·.ak)=Plain.kj g p from by
      obtain⟨m,rX,hm⟩:=HM.out;obtain⟨m',rfl⟩:∃ m',m=m'+1:=⟨m - 1,by omega⟩;exact⟨m',by omega,by rw[<-hm,Plain.Ai HR.out ij]⟩)
     have hgp:0<gk:=by omega
     have Od:(s.put g p.v i).left<gk - 1:=by omega
     have Lg:(s.put g p.v i).left+2<=p.e.length:=by omega
     have hg3:gk - 1<=p.e.length+1:=by omega
     clear ij aia q4 x0 x1 y0 y1 yJ Cj hl3 aon qX Jw AT h3;go_wp2_with fail;refine (MJ w3 _ sb ob N i vE fv2 _ SK ys2 g p s p2 PR sI.out H0.out Pe.out hi YK).mono ?_;rintro e w8 ⟨rfl,fv4,rv4,xs4,ys4,hs4⟩;have YP:=lh hs4;clear hs4 hi YK;go_wp2;go_roundg (gk - 1)
     case measure=>omega
     case rel=>exact⟨fv4,rv4,xs4,ys4,_,p3,aiI,YP.out,HK3.out,Lg,Od,hg3,ZC⟩
 have jq:=lh h0;have Sy:Hid (Plain.jB g p (p.err g) []):=lh (Or.inl ⟨h0,rfl,rfl⟩);obtain⟨er,qT⟩:∃ er,p.err g=er:=⟨_,rfl⟩;rw[qT] at Sy h0 ⊢;have hb:(er != 0)=true:=by simpa using h0
 have gY:¬ er=0:=h0;clear jq qT;go_wp2;refine bodyPost_ret (v:=.tuple #[.slice none 0 0,.int .i64 er]) (by simp[results,Tryz.results38,go_sem]) rfl ?_;exact⟨_,er,[],rfl,Sy.out,zK _,bU.out⟩
end Go.Proofs.YtoiflofhcmjpoaaGreat
-- READS ONLY
namespace Go.Proofs.YtoiflofhcmjpoaaGreat
open Go.RowKit Go.Maps
theorem Sq:qg 22 72 (.agg #[.int .i64 0,.int .i64 0]) 2 16:=⟨Tryz.underlying22,by kernel_rfl,rfl,by decide,by decide⟩
def eL:List (Int × Int)->List Value
 | []=>[]
 | x :: l=>.int .i64 x.1 :: .int .i64 x.2 :: eL l
theorem mA:∀ {l:List (Int × Int)} {i:Nat},i<l.length->(eL l)[i*2]?=some (.int .i64 (l.getD i (0,0)).1)/\(eL l)[i*2+1]?=some (.int .i64 (l.getD i (0,0)).2)
 | [],i,h=>by simp at h
 | x :: l,0,_=>⟨rfl,rfl⟩
 | x :: l,i+1,h=>by
  have ih:=mA (l:=l) (i:=i) (by simpa using h);rw[show (i+1)*2=i*2+1+1 by omega];refine⟨?_,?_⟩
  ·show (eL l)[i*2]?=_
   rw[ih.1];rfl
  show (eL l)[i*2+1]?=_;rw[ih.2];rfl
theorem y7 (l:List (Int × Int)) (x:Int × Int):eL (l++[x])=eL l++[.int .i64 x.1,.int .i64 x.2]:=by
 induction l with
 | nil=>rfl
 | cons y l ih=>show _ :: _ :: eL (l++[x])=_;rw[ih];rfl
theorem P5 {w:World} {B:Nat} {v:Value} {g:Plain.Gr} (hn:bF g.n) (hs:∀ i,i<g.e.length->bF (g.ends i).1/\bF (g.ends i).2) (hl:g.e.length<=100000) (h:w.ownsRow B 72 2 v g.e.length (eL g.e)):cA w (.agg #[.int .i64 g.n,v]) g:=by
 rcases h.2 with ⟨rfl,h0⟩ | ⟨b,cap,cur,rfl,hb,hh,Dc,kB,ja,hys⟩
 ·exact⟨none,0,by rw[h0],hn,by omega,hs,λi hi=>by omega⟩
 refine⟨_,cap,rfl,hn,by omega,hs,λi hi=>⟨b,0,rfl,?_,?_⟩⟩
 ·rw[Qn,cell_of_row w _ (i*2) cur 72 (0,0) hh]
  have q:=(mA hi).1
  grind [Plain.Gr.ends]
 rw[Qn,cell_of_row w _ (i*2+1) cur 72 (0,0) hh];have q:=(mA hi).2
 grind [Plain.Gr.ends]
def iC (a b:Nat):List (Int × Int):=((Qt a).flatMap λi=>(Qt (4 - i)).map λk=>((i:Int),((i+1+k:Nat):Int)))++(Qt (b - (a+1))).map λk=>((a:Int),((a+1+k:Nat):Int))
theorem G7:∀ a:Nat,a<5->∀ b:Nat,b<5->a<b->iC a (b+1)=iC a b++[((a:Int),(b:Int))]:=by decide
theorem KJ:∀ a:Nat,a<5->iC a 5=iC (a+1) (a+2):=by decide
theorem KV:∀ a:Nat,a<6->∀ b:Nat,b<8->(iC a b).length<=30:=by decide
namespace Plain
end Plain
namespace Plain
end Plain
theorem IW (vg vp:Value) (g:Plain.Gr) (p:Plain.Pt) (w:World) (mE:p.v.length<=100000) (hg:cA w vg g) (hp:dt w vp p) :
  Calls Tryz.prog 34 #[vg,vp] w λe w'=>∃ err t,e=.returned (.bool (decide (err=0)))/\Plain.jB g p err t/\ai [] w w':=by
 obtain⟨eo,cap,ao,ac,bo,bc,rfl,rfl,HG,HP,hm,uJ,oJ,pU,nG,xL,uD,aY,bm⟩:=eF hg hp;clear hg hp;obtain⟨x0,x1,y0,y1,bs⟩:=bm.out _ (ai.refl _ _);go_enter Tryz.func34,Tryz.ntmps34;go_wp2_with fail;obtain⟨w1,gu⟩:∃ w1,((w.alloc (.cells #[.int .i64 g.n,.slice eo g.e.length cap] 24)).alloc (.cells #[.slice ao p.v.length ac,.slice bo p.e.length bc] 27))=w1:=⟨_,rfl⟩;rw[gu] at aY bm ⊢;clear gu x0 x1 y0 y1 bs;refine (Ng _ _ g p _ mE (HG.out.fresh aY.out) (HP.out.fresh aY.out)).mono ?_;rintro e w2 ⟨v,err,t,rfl,hbr,-,bI⟩;have bU:=lh (aY.out.tr bI);have HBR:=lh hbr;clear bI hbr;by_cases h:err=0
 ·subst h
  go_wp2;go_ret;exact⟨0,t,rfl,HBR.out,bU.out⟩
 have hb:(err==0)=false:=by simpa using h
 go_wp2;go_ret;exact⟨err,t,aM (by first | exact (decide_eq_false h).symm | simp[h,hb]),HBR.out,bU.out⟩
end Go.Proofs.YtoiflofhcmjpoaaGreat
namespace Go.Proofs.YtoiflofhcmjpoaaGreat.Plain
variable {l m K S:List Int} {d e x:Int}
def par (f:Int->Bool):List Int->Bool
 | []=>false
 | d :: l=>f d ^^ par f l
theorem zP (f:Int->Bool):∀ l m:List Int,par f (l++m)=(par f l ^^ par f m)
 | [],m=>by simp[par]
 | d :: l,m=>by simp[par,zP f l m]
theorem E0 {f:Int->Bool} (h:l.Perm m):par f l=par f m:=by
 induction h with
 | nil=>rfl
 | cons x _ ih=>simp[par,ih]
 | swap x y l=>simp only[par];cases f x <;> cases f y <;> simp
 | trans _ _ ih1 ih2=>rw[ih1,ih2]
theorem j5 {f:Int->Bool}:∀ {l:List Int},(∀ d∈l,f d=false)->par f l=false
 | [],_=>rfl
 | d :: l,h=>by simp[par,h d (by simp),j5 (l:=l) λe he=>h e (Qb _ he)]
theorem qE {f k:Int->Bool}:∀ {l:List Int},(∀ d∈l,f d=k d)->par f l=par k l
 | [],_=>rfl
 | d :: l,h=>by simp[par,h d (by simp),qE (l:=l) λe he=>h e (Qb _ he)]
theorem ui (f k:Int->Bool):∀ l:List Int,par (λd=>f d ^^ k d) l=(par f l ^^ par k l)
 | []=>rfl
 | d :: l=>by simp only[par,ui f k l];cases f d <;> cases k d <;> cases par f l <;> cases par k l <;> rfl
theorem kC {f:Int->Bool} {x:Int}:∀ {l:List Int},l.Nodup->x∈l->f x=true->(∀ d∈l,d≠x->f d=false)->par f l=true
 | [],_,hx,_,_=>by simp at hx
 | d :: l,hn,hx,hf,ho=>by
  rw[Qh] at hn;by_cases e:d=x
  ·subst e
   simp[par,hf,j5 λe he=>ho e (Qb _ he) λq=>hn.1 (q ▸ he)]
  have hx:x∈l:=by rcases Qc.1 hx with q | q;exact absurd q.symm e;exact q
  simp[par,ho d (by simp) e,kC hn.2 hx hf λe he=>ho e (Qb _ he)]
section
variable (b : Int -> Int) (c : Int -> Bool)
def eU (d:Int) (s:Bool):Int:=4*(d / 2)+(if (s ^^ (decide (d % 2=1)&&c (d / 2)))=true then 2 else 0)+d % 2
def cvD (x:Int):Int:=2*(x / 4)+x % 2
def cvS (x:Int):Bool:=decide (x / 2 % 2=1) ^^ (decide (x % 2=1)&&c (x / 4))
def PB (x:Int):Int:=eU c (b (cvD x)) (cvS c x ^^ c (cvD x / 2))
end
variable {b : Int -> Int} {c : Int -> Bool}
theorem Lj (d:Int) (s:Bool):eU c d s / 4=d / 2/\eU c d s % 2=d % 2/\(eU c d s / 2 % 2=1↔(s ^^ (decide (d % 2=1)&&c (d / 2)))=true):=by
 unfold eU;cases h:(s ^^ (decide (d % 2=1)&&c (d / 2)))
 ·simp only[Bool.false_eq_true,if_false,iff_false]
  refine⟨by omega,by omega,by omega⟩
 simp only[if_true,iff_true];refine⟨by omega,by omega,by omega⟩
theorem nS (d:Int) (s:Bool):cvD (eU c d s)=d:=by
 obtain⟨h1,h2,-⟩:=Lj (c:=c) d s;unfold cvD;rw[h1,h2];omega
theorem Ds (d:Int) (s:Bool):cvS c (eU c d s)=s:=by
 obtain⟨h1,h2,h3⟩:=Lj (c:=c) d s;unfold cvS;rw[h1,h2];have e:decide (eU c d s / 2 % 2=1)=(s ^^ (decide (d % 2=1)&&c (d / 2))):=by
  cases h:(s ^^ (decide (d % 2=1)&&c (d / 2)))
  ·rw[h] at h3;simpa using h3
  rw[h] at h3;simpa using h3
 rw[e];cases s <;> cases (decide (d % 2=1)&&c (d / 2)) <;> rfl
theorem Wa {s t:Bool} (h:eU c d s=eU c e t):d=e/\s=t:=⟨by rw[<-nS (c:=c) d s,h,nS],by rw[<-Ds (c:=c) d s,h,Ds]⟩
theorem xZ (d:Int) (s:Bool):PB b c (eU c d s)=eU c (b d) (s ^^ c (d / 2)):=by unfold PB;rw[nS,Ds]
theorem Sw (d:Int) (s:Bool):eU c d s / 2=2*(d / 2)+(if (s ^^ (decide (d % 2=1)&&c (d / 2)))=true then 1 else 0):=by
 unfold eU;split <;> omega
theorem UI (d:Int) (s:Bool):aH (eU c d s)=eU c (aH d) (s ^^ c (d / 2)):=by
 have h1:=bJ d;unfold eU;rw[h1];rcases yE d with ⟨e1,e2⟩ | ⟨e1,e2⟩
 ·have m0:d % 2=0:=by omega
  have m1:aH d % 2=1:=by omega
  rw[m0,m1];have:(if (s ^^ (decide ((0:Int)=1)&&c (d / 2)))=true then (2:Int) else 0)=if (s ^^ c (d / 2) ^^ (decide ((1:Int)=1)&&c (d / 2)))=true then 2 else 0:=by
   cases s <;> cases c (d / 2) <;> simp
  rw[this];unfold aH;split <;> split <;> omega
 have m0:d % 2=1:=by omega
 have m1:aH d % 2=0:=by omega
 rw[m0,m1];have:(if (s ^^ (decide ((1:Int)=1)&&c (d / 2)))=true then (2:Int) else 0)=if (s ^^ c (d / 2) ^^ (decide ((0:Int)=1)&&c (d / 2)))=true then 2 else 0:=by
  cases s <;> cases c (d / 2) <;> simp
 rw[this];unfold aH;split <;> split <;> omega
def lift (c:Int->Bool):Bool->List Int->List Int
 | _,[]=>[]
 | s,d :: l=>eU c d s :: lift c (s ^^ c (d / 2)) l
theorem yT {z:Int}:∀ {l:List Int} {x:Int} {s:Bool},Trail b x l z->Trail (PB b c) (eU c x s) (lift c (s ^^ c (x / 2)) l) (eU c z (s ^^ par (λd=>c (d / 2)) (x :: l)))
 | [],x,s,h=>by
  have h:b x=z:=h;show PB b c (eU c x s)=_;rw[xZ,h];simp[par]
 | d :: l,x,s,h=>by
  have ih:=yT (s:=s ^^ c (x / 2)) h.2;refine⟨by rw[xZ,h.1],?_⟩;have e:(s ^^ c (x / 2) ^^ par (λd=>c (d / 2)) (d :: l))=(s ^^ par (λd=>c (d / 2)) (x :: d :: l)):=by simp[par]
  rw[<-e];exact ih
theorem BN (h:Ring b l) (he:par (λd=>c (d / 2)) l=false) (s:Bool):Ring (PB b c) (lift c s l):=by
 cases l with
 | nil=>exact h.elim
 | cons x l =>
  have:=yT (c:=c) (s:=s) (show Trail b x l x from h);rw[he,Qj] at this;exact this
theorem B3:∀ (l:List Int) (s:Bool),(lift c s l++lift c (!s) l).Perm (l.flatMap λd=>[eU c d false,eU c d true])
 | [],_=>by simp[lift]
 | d :: l,s=>by
  have ih:=B3 l (s ^^ c (d / 2));have e:(!s ^^ c (d / 2))=!(s ^^ c (d / 2)):=by cases s <;> simp
  show (eU c d s :: (lift c (s ^^ c (d / 2)) l++eU c d (!s) :: lift c (!s ^^ c (d / 2)) l)).Perm (eU c d false :: eU c d true :: _);rw[e];have h1:(eU c d s :: (lift c (s ^^ c (d / 2)) l++eU c d (!s) :: lift c (!(s ^^ c (d / 2))) l)).Perm (eU c d s :: eU c d (!s) :: (lift c (s ^^ c (d / 2)) l++lift c (!(s ^^ c (d / 2))) l)):=Qp.cons _ Qq;refine h1.trans ?_;cases s
  ·exact (ih.cons _).cons _
  exact (Qp.swap _ _ _).trans ((ih.cons _).cons _)
theorem yI:∀ B:List (List Int),(B.flatMap λl=>[lift c false l,lift c true l]).flatten.Perm (B.flatten.flatMap λd=>[eU c d false,eU c d true])
 | []=>by simp
 | l :: B=>by
  have ih:=yI B;simp only[Qd,Ql,Qo,Qm,Qr,Qs];exact (B3 l false).append ih
theorem wV:∀ C:List (List Int),(C.flatMap λl=>[l.map (eU c · false),l.map (eU c · true)]).flatten.Perm (C.flatten.flatMap λd=>[eU c d false,eU c d true])
 | []=>by simp
 | l :: C=>by
  have ih:=wV C;simp only[Qd,Ql,Qo,Qm,Qr,Qs];refine Qp.append ?_ ih;clear ih
  induction l with
  | nil=>simp
  | cons d l ih =>
   simp only[List.map_cons,Qd];show (eU c d false :: (l.map (eU c · false)++eU c d true :: l.map (eU c · true))).Perm (eU c d false :: eU c d true :: _);exact Qp.cons _ (Qq.trans (ih.cons _))
theorem wY:∀ {K:List Int},K.Nodup->(K.flatMap λd=>[eU c d false,eU c d true]).Nodup
 | [],_=>by simp
 | d :: K,h=>by
  rw[Qh] at h;rw[Qd,List.nodup_append];refine⟨?_,wY h.2,λx hx y hy e=>?_⟩
  ·simp only[Qh,Qa,Qg,not_false_iff,List.nodup_nil,and_true]
   exact λe=>by cases (Wa e).2
  obtain⟨f,hf,hy⟩:=Qe.1 hy;have e1:cvD x=d:=by
   rcases Qc.1 hx with q | q
   ·rw[q,nS]
   rw[Qa.1 q,nS]
  have e2:cvD y=f:=by
   rcases Qc.1 hy with q | q
   ·rw[q,nS]
   rw[Qa.1 q,nS]
  rw[e,e2] at e1;exact h.1 (e1 ▸ hf)
theorem kM:x∈(K.flatMap λd=>[eU c d false,eU c d true])↔∃ d∈K,∃ s,x=eU c d s:=by
 rw[Qe];constructor
 ·rintro ⟨d,hd,hx⟩
  rcases Qc.1 hx with q | q
  ·exact⟨d,hd,_,q⟩
  exact⟨d,hd,_,Qa.1 q⟩
 rintro ⟨d,hd,s,rfl⟩;exact⟨d,hd,by cases s <;> simp⟩
theorem Dg {α:Type} (f k:List Int->α):∀ B:List (List Int),(B.flatMap λl=>[f l,k l]).length=2*B.length
 | []=>rfl
 | l :: B=>by rw[Qd,List.length_append,Dg f k B];simp;omega
theorem Wi {B C:List (List Int)} (hb:bw b B) (hB:B.flatten.Perm K) (hSn:S.Nodup) (hK:∀ d,d∈K↔d / 2∈S)
  (hC:bw (λx=>b (aH x)) C) (RW:C.flatten.Perm K) (heu:B.length+C.length=2+S.length)
  (nJ:∀ Q:Int->Int->Prop,oS Q->(∀ x∈K,Q x (b x))->(∀ x∈K,Q x (aH x))->∀ x∈K,∀ y∈K,Q x y)
  (qB:∀ l∈B,par (λd=>c (d / 2)) l=false) :
  ∃ χ:Int->Bool,(∀ d∈K,χ (b (aH d))=χ d)/\∀ d∈K,χ (aH d)=(χ d ^^ c (d / 2)):=by
 have hKn:K.Nodup:=hB.nodup_iff.1 hb.nodup;have htK:∀ {d},d∈K->aH d∈K:=λ{d} h=>(hK _).2 (by rw[bJ];exact (hK _).1 h);have hbK:∀ {d},d∈K->b d∈K:=λ{d} h=>hB.mem_iff.1 (hb.next (hB.mem_iff.2 h))
 let K2:=K.flatMap λd=>[eU c d false,eU c d true]
 let B2:=B.flatMap λl=>[lift c false l,lift c true l]
 let C2:=C.flatMap λl=>[l.map (eU c · false),l.map (eU c · true)]
 let S2:=S.flatMap λe=>[2*e,2*e+1]
 have hK2:K2.Nodup:=wY hKn;have fm:∀ {M:List Int},M.Perm K->(M.flatMap λd=>[eU c d false,eU c d true]).Perm K2:=λ{M} h=>h.flatMap_right _;have acx:B2.flatten.Perm K2:=(yI B).trans (fm hB);have aft:C2.flatten.Perm K2:=(wV C).trans (fm RW);have gY:bw (PB b c) B2:=by
  refine⟨λl hl=>?_,acx.nodup_iff.2 hK2⟩;obtain⟨m,hm,hl⟩:=Qe.1 hl;rcases Qc.1 hl with q | q
  ·rw[q];exact BN (hb.ring m hm) (qB m hm) _
  rw[Qa.1 q];exact BN (hb.ring m hm) (qB m hm) _
 have aph:S2.Nodup:=cV (p:=⟨[],S⟩) hSn;have iN:∀ d s,eU c d s / 2∈S2↔d∈K:=λd s=>by
  have h1:eU c d s / 2∈S2↔eU c d s / 2 / 2∈S:=au (p:=⟨[],S⟩);rw[h1,hK,Sw];have:(2*(d / 2)+(if (s ^^ (decide (d % 2=1)&&c (d / 2)))=true then 1 else 0)) / 2=d / 2:=by split <;> omega
  rw[this]
 have xq:∀ d s,d∈K->tw S2 (eU c d s)=eU c (aH d) (s ^^ c (d / 2)):=λd s hd=>by
  rw[Fk aph,if_pos ((iN d s).2 hd),UI]
 have Zg:∀ d s,d∈K->PB b c (tw S2 (eU c d s))=eU c (b (aH d)) s:=λd s hd=>by
  rw[xq d s hd,xZ,bJ];cases s <;> cases c (d / 2) <;> rfl
 have hsh:∀ (s:Bool) {z:Int} {l:List Int} {x:Int},(∀ y∈x :: l,y∈K)->Trail (λx=>b (aH x)) x l z->Trail (λx=>PB b c (tw S2 x)) (eU c x s) (l.map (eU c · s)) (eU c z s):=by
  intro s z l
  induction l with
  | nil =>
   intro x hx h;have h:b (aH x)=z:=h;show PB b c (tw S2 (eU c x s))=_;rw[Zg x s (hx x (by simp)),h]
  | cons d l ih =>
   intro x hx h;exact⟨by show PB b c (tw S2 (eU c x s))=_;rw[Zg x s (hx x (by simp))];exact congrArg (eU c · s) h.1,ih (λy hy=>hx y (Qb _ hy)) h.2⟩
 have WB:bw (λx=>PB b c (tw S2 x)) C2:=by
  refine⟨λl hl=>?_,aft.nodup_iff.2 hK2⟩;obtain⟨m,hm,hl⟩:=Qe.1 hl;have hr:=hC.ring m hm;have hmK:∀ y∈m,y∈K:=λy hy=>RW.mem_iff.1 (List.mem_flatten.2 ⟨m,hm,hy⟩);have:∀ s,Ring (λx=>PB b c (tw S2 x)) (m.map (eU c · s)):=λs=>by
   cases m with
   | nil=>exact hr.elim
   | cons x m=>exact hsh s hmK hr
  rcases Qc.1 hl with q | q
  ·rw[q];exact this _
  rw[Qa.1 q];exact this _
 have amS:∀ e∈S2,2*e∈K2/\2*e+1∈K2:=λe he=>by
  obtain⟨f,hf,he⟩:=Qe.1 he;have m0:(2*f)∈K:=(hK _).2 (by rwa[show 2*f / 2=f by omega]);have m1:(2*f+1)∈K:=(hK _).2 (by rwa[show (2*f+1) / 2=f by omega]);have e0:∀ s,eU c (2*f) s=4*f+(if s=true then 2 else 0):=λs=>by
   unfold eU;rw[show 2*f / 2=f by omega,show 2*f % 2=0 by omega];cases s <;> simp
  have e1:∀ s,eU c (2*f+1) s=4*f+(if (s ^^ c f)=true then 2 else 0)+1:=λs=>by
   unfold eU;rw[show (2*f+1) / 2=f by omega,show (2*f+1) % 2=1 by omega];cases s <;> simp
  rcases Qc.1 he with q | q
  ·refine⟨kM.2 ⟨_,m0,false,?_⟩,kM.2 ⟨_,m1,c f,?_⟩⟩
   ·rw[e0,q];simp;omega
   rw[e1,q];simp;omega
  have q:=Qa.1 q;refine⟨kM.2 ⟨_,m0,true,?_⟩,kM.2 ⟨_,m1,!c f,?_⟩⟩
  ·rw[e0,q];simp;omega
  rw[e1,q];cases c f <;> simp <;> omega
 have hle:=tW gY acx amS WB aft;have l1:B2.length=2*B.length:=Dg _ _ B;have l2:C2.length=2*C.length:=Dg _ _ C;have l3:S2.length=2*S.length:=ct ⟨[],S⟩;rw[l1,l2,l3] at hle
 let R:=gK (Same B2) S2
 have hR:oS R:=gK.eqv (Same.eqv gY.nodup) S2;have hR2:2<=et R K2:=by show 2<=et (gK (Same B2) S2) K2;omega
 have rb:∀ d∈K,∀ s,R (eU c d s) (eU c (b d) (s ^^ c (d / 2))):=λd hd s=>by
  rw[<-xZ];exact gK.base (Same.step gY (acx.mem_iff.2 (kM.2 ⟨d,hd,s,rfl⟩))) S2
 have rt:∀ d∈K,∀ s,R (eU c d s) (eU c (aH d) (s ^^ c (d / 2))):=λd hd s=>by
  rw[<-xq d s hd];exact JU (Same.eqv gY.nodup) S2 _
 let Q:Int->Int->Prop:=λx y=>∃ t:Bool,∀ s:Bool,R (eU c x s) (eU c y (s ^^ t))
 have hQ:oS Q:=⟨λx=>⟨false,λs=>by rw[Qj];exact hR.refl _⟩,
  λ{x y} ⟨t,h⟩=>⟨t,λs=>by
   have:=h (s ^^ t);rw[Qu,Bool.xor_self,Qj] at this;exact hR.symm this⟩,
  λ{x y z} ⟨t,h⟩ ⟨u,k⟩=>⟨t ^^ u,λs=>by
   have:=k (s ^^ t);rw[Qu] at this;exact hR.trans (h s) this⟩⟩
 have cX:=nJ Q hQ (λx hx=>⟨_,rb x hx⟩) (λx hx=>⟨_,rt x hx⟩);have gV:∀ d∈K,¬ R (eU c d false) (eU c d true):=λd hd hq=>by
  have kq:∀ x∈K2,R x (eU c d false):=λx hx=>by
   obtain⟨e,he,s,rfl⟩:=kM.1 hx;obtain⟨t,ht⟩:=cX e he d hd;have:=ht s;cases h:(s ^^ t)
   ·rwa[h] at this
   rw[h] at this;exact hR.trans this (hR.symm hq)
  have:=sg hR (K:=K2) λx hx y hy=>hR.trans (kq x hx) (hR.symm (kq y hy));omega
 by_cases hK0:K=[]
 ·exact⟨λ_=>false,λd hd=>absurd (hK0 ▸ hd) Qg,λd hd=>absurd (hK0 ▸ hd) Qg⟩
 obtain⟨o,ho⟩:=List.exists_mem_of_ne_nil K hK0;have YR:∀ d∈K,∀ t u:Bool,(∀ s:Bool,R (eU c o s) (eU c d (s ^^ t)))->R (eU c o false) (eU c d u)->t=u:=λd hd t u h k=>by
  have h0:=h false;rw[Qk] at h0;have h1:=hR.trans (hR.symm h0) k;cases t <;> cases u
  ·rfl
  ·exact absurd h1 (gV d hd)
  ·exact absurd (hR.symm h1) (gV d hd)
  rfl
 have hex:∀ d,∃ t:Bool,d∈K->∀ s:Bool,R (eU c o s) (eU c d (s ^^ t)):=λd=>by
  by_cases hd:d∈K
  ·obtain⟨t,ht⟩:=cX o ho d hd
   exact⟨t,λ_=>ht⟩
  exact⟨false,λq=>absurd q hd⟩
 let χ:Int->Bool:=λd=>Classical.choose (hex d)
 have mM:∀ d∈K,∀ s:Bool,R (eU c o s) (eU c d (s ^^ χ d)):=λd hd=>Classical.choose_spec (hex d) hd;have e1:∀ d∈K,χ (aH d)=(χ d ^^ c (d / 2)):=λd hd=>by
  have h1:=mM d hd false;rw[Qk] at h1;exact YR _ (htK hd) _ _ (mM _ (htK hd)) (hR.trans h1 (rt d hd _))
 have e2:∀ d∈K,χ (b d)=(χ d ^^ c (d / 2)):=λd hd=>by
  have h1:=mM d hd false;rw[Qk] at h1;exact YR _ (hbK hd) _ _ (mM _ (hbK hd)) (hR.trans h1 (rb d hd _))
 refine⟨χ,λd hd=>?_,e1⟩;rw[e2 _ (htK hd),e1 d hd,bJ];cases χ d <;> cases c (d / 2) <;> rfl
