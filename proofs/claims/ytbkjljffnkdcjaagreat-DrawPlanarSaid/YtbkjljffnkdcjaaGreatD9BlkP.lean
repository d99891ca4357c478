/- The blocks that the search finds, as a list of parts. No program here. -/
import Derived.Test.YtbkjljffnkdcjaaGreatD9BSpan
import Derived.Test.YtbkjljffnkdcjaaGreatD9SkC
open Go.Value renaming slice→Qa
open Go.Act renaming put→Qb
open List renaming take_succ_eq_append_getElem→Qc,mem_cons_of_mem→Qd,mem_map→Qe,flatten_cons→Qf,append_nil→Qh,mergeSort_perm→Qi,mem_flatten→Qk,take_length→Ql,length_take→Qm
open Classical renaming propDecidable→Qg
open Bool renaming eq_false_iff→Qj
open Nat renaming le_refl→Qn,zero_le→Qq
open Or renaming inr→Qo
open Eq renaming symm→Qp
namespace Go.Proofs.YtbkjljffnkdcjaaGreat.Plain
theorem C8 {P:List Int->Prop} {l:List Int} {bl:List (List Int)} (h:∀ m∈bl,P m) (hl:P l):∀ m∈lG l bl,P m:=fun m hm=>by
 unfold lG at hm;split at hm
 ·obtain⟨k,hk,rfl⟩:=Qe.1 hm
  split
  ·exact hl
  exact h k hk
 rcases List.mem_append.1 hm with q | q
 ·exact h m q
 rw[List.mem_singleton.1 q];exact hl
def dQ (s:dG):Prop:=∀ l∈s.bl,l.Pairwise (·<=·)
theorem RG (l:List Int):(Ak l).Pairwise (·<=·):=by
 unfold Ak;have:=List.pairwise_mergeSort (le:=fun x y:Int=>decide (x<=y)) (fun a b c h1 h2=>by simp only[decide_eq_true_eq] at *;omega) (fun a b=>by simp only[Bool.or_eq_true,decide_eq_true_eq];omega) l;exact this.imp fun h=>of_decide_eq_true h
theorem dQ.take {s:dG} (h:dQ s) (e:Int):dQ (s.take e):=C8 h (RG _)
theorem dQ.lay {s:dG} (h:dQ s) (e:Int):dQ (s.lay e):=C8 h (by simp)
theorem dQ.step {g:Gr} {go:Int->Int->dG->dG} (hgo:∀ v via s,dQ s->dQ (go v via s)) {v via d:Int} {s:dG} (h:dQ s):dQ (fg go g v via s d):=by
 unfold fg;split
 ·exact h.lay _
 split
 ·exact h
 split
 ·have h1:dQ (go (g.head d) (d / 2) (s.push (d / 2))):=hgo _ _ _ h
  unfold dG.back;split
  ·exact dQ.take (s:=dG.lower _ _ _) h1 _
  exact h1
 split
 ·exact h
 exact h
theorem dQ.visit {g:Gr} {p:Pt}:∀ (n:Nat) (v via:Int) (s:dG),dQ s->dQ (visit g p n v via s)
 | 0,_,_,_,h=>h
 | n+1,v,via,s,h=>by
  have hf:∀ (D:List Int) (t:dG),dQ t->dQ (D.foldl (fg (Plain.visit g p n) g v via) t):=by
   intro D
   induction D with
   | nil=>intro t ht;exact ht
   | cons d D ih=>intro t ht;exact ih _ (ht.step (dQ.visit n))
  exact hf _ _ h
theorem x5 (g:Gr) (p:Pt):dQ (findAll g p):=by
 have hf:∀ (l:List Int) (t:dG),dQ t->dQ (kp g p p.v.length l t):=by
  intro l
  induction l with
  | nil=>intro t ht;exact ht
  | cons v l ih =>
   intro t ht;unfold kp at ih ⊢;rw[List.foldl_cons];refine ih _ ?_;split
   ·exact dQ.visit _ _ _ _ ht
   exact ht
 exact hf _ _ (by intro l h;cases h)
def kq (bl:List (List Int)):List Int:=bl.map fun l=>l.getD 0 0
def gQ (g:Gr) (p:Pt):List Int:=(kq (findAll g p).bl).mergeSort fun x y=>decide (x<=y)
def GH (bl:List (List Int)) (r:Int):List Int:=(bl.find? fun l=>decide (l.getD 0 0=r)).getD []
theorem jN:∀ {bl:List (List Int)},bl.flatten.Nodup->(∀ l∈bl,l≠[])->(kq bl).Nodup
 | [],_,_=>List.nodup_nil
 | l :: bl,h,hn=>by
  rw[Qf,List.nodup_append] at h;show ((l.getD 0 0) :: kq bl).Nodup;rw[List.nodup_cons];refine⟨fun q=>?_,jN h.2.1 fun m hm=>hn m (Qd _ hm)⟩;obtain⟨m,hm,e⟩:=Qe.1 q;have h1:∀ k:List Int,k≠[]->k.getD 0 0∈k:=fun k hk=>by
   cases k with
   | nil=>exact absurd rfl hk
   | cons x k=>simp
  exact h.2.2 _ (h1 l (hn l (by simp))) _ (Qk.2 ⟨m,hm,h1 m (hn m (Qd _ hm))⟩) e.symm
theorem xD {bl:List (List Int)} {r:Int} (h:r∈kq bl):GH bl r∈bl/\(GH bl r).getD 0 0=r:=by
 obtain⟨l,hl,e⟩:=Qe.1 h;unfold GH;cases hf:bl.find? fun l=>decide (l.getD 0 0=r) with
 | none =>
  have:=List.find?_eq_none.1 hf l hl;exact absurd (decide_eq_true e) this
 | some m=>exact⟨List.mem_of_find?_eq_some hf,by simpa using List.find?_some hf⟩
theorem te {g:Gr} {p:Pt} {r:Int}:r∈gQ g p↔r∈kq (findAll g p).bl:=(Qi _ _).mem_iff
theorem tt (g:Gr) (p:Pt):(gQ g p).length=(findAll g p).bl.length:=by
 unfold gQ;rw[(Qi _ _).length_eq];simp[kq]
theorem yf {g:Gr} {p:Pt} (hp:aH g p):(findAll g p).bl.length<=p.e.length/\∀ l∈(findAll g p).bl,l.length<=p.e.length/\∀ e∈l,e∈p.e:=by
 obtain⟨h1,-⟩:=mY hp;have h2:=lj hp;have h3:∀ {bl:List (List Int)},(∀ l∈bl,l≠[])->bl.length<=bl.flatten.length:=by
  intro bl
  induction bl with
  | nil=>intro _;simp
  | cons l bl ih =>
   intro h;have:=ih fun m hm=>h m (Qd _ hm);have:=List.length_pos_iff.2 (h l (by simp));rw[Qf,List.length_append,List.length_cons];omega
 refine⟨by have:=h3 h1.bV.Ap;rw[h2.length_eq] at this;exact this,fun l hl=>⟨?_,fun e he=>h2.mem_iff.1 (Qk.2 ⟨l,hl,he⟩)⟩⟩;rw[<-h2.length_eq];exact (List.sublist_flatten_of_mem hl).length_le
end Go.Proofs.YtbkjljffnkdcjaaGreat.Plain
namespace Go.Proofs.YtbkjljffnkdcjaaGreat
open Go.RowKit Go.Maps
namespace Plain
def uY (g:Gr) (p:Pt) (r:Int):List Int:=(gN g (GH (findAll g p).bl r)).v
def pB (g:Gr) (p:Pt) (r:Int):List Int:=GH (findAll g p).bl r
end Plain
set_option maxRecDepth 100000 in
set_option maxHeartbeats 4000000 in
theorem xJ (vg vp:Value) (g:Plain.Gr) (p:Plain.Pt) (w:World) (pO:p.v.length<=100000) (hg:dU w vg g) (hp:gD w vp p) :
  Calls Tryz.prog 26 #[vg,vp] w fun e w'=>∃ ov,e=.returned (.tuple #[ov,.int .i64 (p.err g)])/\(p.err g≠0->ov=.slice none 0 0) /\
   (p.err g=0->∃ xs,bF w' w.heap.size 27 2 ov (Plain.gQ g p).length xs (pI (Plain.uY g p) (Plain.pB g p) (Plain.gQ g p)))/\ai [] w w':=by
 have HG:=lh hg;have HP:=lh hp;obtain⟨eo,cap,rfl,hn,hm,dS,aO⟩:=hg;obtain⟨v1,v2,rfl,hv,he⟩:=hp;obtain⟨ao,ac,rfl,has,KZ,cD⟩:=hv;obtain⟨bo,bc,rfl,la,vD,bT⟩:=he;have IB:=lh cD;have Ci:=lh bT;have VA:=lh has;have Sv:=lh la;obtain⟨-,-,cG⟩:=dq w #[.int .i64 g.n,.slice eo g.e.length cap] #[.slice ao p.v.length ac,.slice bo p.e.length bc] 24 27;have b8:=lh cG;have eE:=lh (fun w2 h=>im w (g:=g) (p:=p) (eo:=eo) (ao:=ao) (bo:=bo) (cap:=cap) (ac:=ac) (bc:=bc) (w2:=w2) h);clear aO cD bT dS has la hn cG;obtain⟨x0,x1,y0,y1,di⟩:=eE.out _ (ai.refl _ _)
 go_enter Tryz.func26,Tryz.ntmps26
 go_wp2_with fail
 obtain⟨w1,sA⟩:∃ w1,((w.alloc (.cells #[.int .i64 g.n,.slice eo g.e.length cap] 24)).alloc (.cells #[.slice ao p.v.length ac,.slice bo p.e.length bc] 27))=w1:=⟨_,rfl⟩;rw[sA] at b8 eE ⊢;clear sA x0 x1 y0 y1 di;refine (fw _ _ g p _ (by omega) (HG.out.fresh b8.out) (HP.out.fresh b8.out)).mono ?_;rintro e w2 ⟨rfl,bG⟩;have cA:=lh (b8.out.t bG);have zj:=lh bG;obtain⟨x0,x1,y0,y1,di⟩:=eE.out _ bG;clear bG;by_cases hr:p.err g=0
 ·have HR:=lh hr
  rw[hr];have mH:=lh (Plain.Pt.aF hr);have j7:=lh (Plain.Pt.aP hr).1;obtain⟨hz4,hz5,hz6,-⟩:=Plain.Gr.aP (Plain.Pt.aP hr).1;have rT:=lh (show p.e.length<=1024 by have:=fY (Plain.Pt.aP hr).2.2.1;omega);obtain⟨N,hN⟩:∃ N:Nat,g.n=N:=⟨g.n.toNat,by omega⟩;have HN:=lh hN;clear hz4 hz5 hz6 hr hN
  go_wp2_with fail
  have hf:=KP _ _ g p w2 N HN.out HR.out (HG.out.fresh cA.out) (HP.out.fresh cA.out);have LF:=lh hf;clear hf;refine LF.out.mono ?_;rintro e w3 ⟨k,ev,m,F,rfl,-,sK,nq,hk,hkw,Kf,dB⟩;have wP:=lh sK;have dD:=lh (zj.out.t dB);obtain⟨x0,x1,y0,y1,di⟩:=eE.out _ dD.out;obtain⟨-,-,-,-,-,-,-,a7⟩:=sK.eight;have Z8:=lh (Plain.mY mH.out).1;have xt:=lh (show m<=100000 by omega);clear sK nq Kf hk dB LF;have HIX:=lh (show ∀ x,x∈Plain.kq (Plain.findAll g p).bl↔bn x/\(F x).isSome=true from fun x=>by
   constructor
   ·intro hx
    obtain⟨l,hl,rfl⟩:=Qe.1 hx;obtain⟨v,h1,h2,-⟩:=wP.out.rel.1 l hl;have bh:=Z8.out.bV.Ap l hl;have hm:l.getD 0 0∈l:=by
     cases l with
     | nil=>exact absurd rfl bh
     | cons x k=>simp
    exact⟨h2.2.1 _ hm,by rw[h1];rfl⟩
   rintro ⟨-,hs⟩;obtain⟨v,hv⟩:=Option.isSome_iff_exists.1 hs;obtain⟨l,hl,e⟩:=wP.out.rel.2 x v hv;exact Qe.2 ⟨l,hl,e⟩)
  go_wp2_with fail
  refine (PJ k.mp w3).mono ?_;rintro e w4 ⟨rfl,rfl⟩;have uL:=GO k.mp m F (Plain.kq (Plain.findAll g p).bl) w3 wP.out.map (by have:=xt.out;omega) (Plain.jN Z8.out.nd Z8.out.bV.Ap) HIX.out;have BC:=lh uL;clear uL x0 x1 y0 y1 di a7
  go_wp2_with fail
  refine BC.out.mono ?_;rintro e w5 ⟨v5,rfl,AA,gV⟩;have AA:ax w5 w3.heap.size v5 (Plain.gQ g p):=AA;obtain⟨o5,c5,rfl⟩:=AA.shape;have wR:=lh AA;have iP:=lh gV;have HKL:=lh (show (Plain.gQ g p).length<=1024 by rw[Plain.tt];have:=(Plain.yf mH.out).1;have:=rT.out;omega);clear AA gV BC HIX;obtain⟨K,hK⟩:∃ K,Plain.gQ g p=K:=⟨_,rfl⟩;have HK:=lh hK;rw[hK] at wR HKL ⊢;clear hK;have ze:=lh (show w.heap.size<=w5.heap.size from ((b8.out.t dD.out).t iP.out).size)
  go_wp2_with fail
  go_loopw [8,10,27] (fun ov _ iv wr=>∃ i:Nat,i<=K.length/\iv=.int .i64 i/\∃ xs,bF wr w5.heap.size 27 2 ov i xs (pI (Plain.uY g p) (Plain.pB g p) (K.take i))/\ai [] w5 wr) (fun _ _ iv _=>K.length - (intOf iv).toNat)
  case atStart=>exact⟨0,Qq _,rfl,[],bF.nil _ _ _ _,ai.refl _ _⟩
  case round =>
   obtain⟨i,hi,rfl,xs,bh,hc⟩:=hrel;have lK:=lh bh;have HC:=lh hc;have Rv:=lh (iP.out.t hc);obtain⟨x0,x1,y0,y1,di⟩:=eE.out wr (dD.out.t Rv.out);obtain⟨uo,uc,rfl⟩:=bh.shape;have qN:=HKL.out;clear bh hc;by_cases aU:i<K.length
   ·obtain⟨kb,rfl,Te⟩:=wR.out.some (by omega)
    have ck:=HC.out.c (Te i aU);have KW:K.getD i 0∈Plain.kq (Plain.findAll g p).bl:=by rw[<-Plain.te,HK.out];exact Plain.aZ aU
    have sE:=lh (show K.take (i+1)=K.take i++[K.getD i 0] by rw[Qc aU];simp[List.getD,aU]);have NH:bn (K.getD i 0):=wR.out.2.1 _ (Plain.aZ aU);obtain⟨r,hr⟩:∃ r,K.getD i 0=r:=⟨_,rfl⟩;rw[hr] at ck KW sE NH;obtain⟨eG,fh⟩:=Plain.xD KW;obtain⟨v,hv1,WT,-⟩:=wP.out.rel.1 _ eG;rw[fh] at hv1;have la:=(Plain.yf mH.out).2 _ eG;obtain⟨L,hL⟩:∃ L,Plain.GH (Plain.findAll g p).bl r=L:=⟨_,rfl⟩;rw[hL] at WT la;have yd:=lh (show Plain.pB g p r=L from hL);have HLV:=lh (show Plain.uY g p r=(Plain.gN g L).v by unfold Plain.uY;rw[hL]);have Ug:=lh ((WT.aM Rv.out (by simp)).ints);have HLS:=lh la;have WJ:=(wP.out.map.aM Rv.out (by simp)).xR NH;rw[hv1,Option.getD_some] at WJ;obtain⟨vo,vc,rfl⟩:=WT.shape;clear Te hr KW eG fh hv1 WT la hL
    go_wp2_with fail
    refine (Ml _ _ g L _ j7.out (by have:=HLS.out.1;have:=rT.out;omega) (fun e he=>Plain.Pt.JB HR.out (HLS.out.2 e he)) (HG.out.fresh ((b8.out.t dD.out).t Rv.out)) Ug.out).mono ?_;rintro e w6 ⟨v1,v2,rfl,h1,h2,jE,hc6⟩;have PZ:=lh (lK.out.fresh hc6);have H1:=lh (h1.base HC.out.size);have H2:=lh (h2.base HC.out.size);have H1L:=lh h1.low;have H2L:=lh h2.low;have WE:=lh jE;have ni:=lh (HC.out.t hc6);have A9:=lh (show aL v1=v1.ownBlock.toList/\aL v2=v2.ownBlock.toList from⟨h1.aL,h2.aL⟩);obtain⟨o1,c1,rfl⟩:=h1.shape;obtain⟨o2,c2,rfl⟩:=h2.shape;have HSW:=lh (show wr.heap.size<=w6.heap.size from hc6.size);have Um:=lh (show ∀ u∈(#[Qa o1 (Plain.gN g L).v.length c1,Qa o2 L.length c2]:Array Value).toList,u.oneCell'=true from fun u hu=>by
     simp at hu;rcases hu with rfl | rfl <;> rfl)
    have HI:=lh (show i<68719476736 by have:=HKL.out;omega);clear h1 h2 jE hc6 x0 x1 y0 y1 di WJ ck
    go_wp2_with (at_builtin;refine qA Dv rfl _ _ rfl (v:=.slice uo i uc) rfl rfl rfl PZ.out.out ni.out.size rfl Um.out HI.out ?_;intro g4 adI w9 r9 c9 l9;have R9:=lh r9;have C9:=lh c9;clear r9 c9 l9)
    go_roundw
    case rel =>
     have iw:=PZ.out.add (us:=[.slice o1 (Plain.gN g L).v.length c1,.slice o2 L.length c2]) (ds:=[.row (Plain.gN g L).v,.row L]) (by decide) rfl rfl (fun j d hj=>by
      rcases j with _ | _ | j
      ·simp at hj;subst hj;exact H1.out
      ·simp at hj;subst hj;exact H2.out
      ·simp at hj) (fun a b ha hb bh=>by
      have h12:(Qa o1 (Plain.gN g L).v.length c1).ownBlock=none\/(Qa o1 (Plain.gN g L).v.length c1).ownBlock≠(Qa o2 L.length c2).ownBlock:=by
       cases hq:(Qa o1 (Plain.gN g L).v.length c1).ownBlock with
       | none=>exact Or.inl rfl
       | some b=>exact Qo fun e=>WE.out b (by rw[A9.out.1,hq];simp) (by rw[A9.out.2,<-e];simp)
      simp at ha hb;rcases a with _ | _ | a
      ·rcases b with _ | _ | b
       ·exact absurd rfl bh
       ·exact h12
       omega
      ·rcases b with _ | _ | b
       ·cases hq:(Qa o2 L.length c2).ownBlock with
        | none=>exact Or.inl hq
        | some b =>
         refine Qo fun e=>?_;have e:(Qa o2 L.length c2).ownBlock=(Qa o1 (Plain.gN g L).v.length c1).ownBlock:=e;exact WE.out b (by rw[A9.out.1,<-e,hq];simp) (by rw[A9.out.2,hq];simp)
       ·exact absurd rfl bh
       omega
      ·omega) (fun a b q ha hb hq e=>by
      have:=(lK.out.kind ha hq).2.1;simp at hb;rcases b with _ | _ | b
      ·have e:(Qa o1 (Plain.gN g L).v.length c1).ownBlock=some q:=e
       have:=(H1L.out q (by rw[e];simp)).1;omega
      ·have e:(Qa o2 L.length c2).ownBlock=some q:=e
       have:=(H2L.out q (by rw[e];simp)).1;omega
      omega) R9.out C9.out
     refine⟨i+1,by omega,by go_num,_,by rw[sE.out,EY,yd.out,HLV.out];exact iw,ni.out.trans C9.out fun j hj=>Qo (PZ.out.out.lt j (by simpa using hj)).1⟩
    case measure=>simp[intOf];omega
   have e:i=K.length:=by omega
   subst e;rw[Ql] at lK;clear x0 x1 y0 y1 di hi aU;go_wp2;refine bodyPost_ret (v:=.tuple #[.slice uo K.length uc,.int .i64 0]) (by simp[results,Tryz.results26,go_sem]) rfl ?_;exact⟨_,by rw[HR.out],fun h=>absurd HR.out h,fun _=>⟨xs,by rw[HK.out];exact lK.out.base ze.out⟩,(b8.out.t dD.out).t Rv.out⟩
 obtain⟨er,qK⟩:∃ er,p.err g=er:=⟨_,rfl⟩;rw[qK] at hr ⊢;have HR:=lh hr;have BG:=lh qK;have bz:(er != 0)=true:=by simp only[bne_iff_ne];exact hr
 clear hr qK x0 x1 y0 y1 di;go_wp2;refine bodyPost_ret (v:=.tuple #[.slice none 0 0,.int .i64 er]) (by simp[results,Tryz.results26,go_sem]) rfl ?_;exact⟨_,by rw[BG.out],fun _=>rfl,fun h=>absurd (BG.out.symm.trans h) HR.out,cA.out⟩
namespace Plain
noncomputable def kE (g:Gr) (p:Pt):Bool:=@decide (p.err g=0/\cg g p) (Qg _)
theorem jm {g:Gr} {p:Pt}:kE g p=true↔p.err g=0/\cg g p:=by unfold kE;exact @decide_eq_true_iff _ (Qg _)
theorem L3 {g:Gr} {E:List Int} {v:Int}:v∈fG g E↔∃ e∈E,(g.at e).1=v\/(g.at e).2=v:=by
 unfold fG;rw[List.mem_flatMap];constructor
 ·rintro ⟨e,he,h⟩
  simp at h;exact⟨e,he,h.imp Qp Qp⟩
 rintro ⟨e,he,h⟩;exact⟨e,he,by simpa using h.imp Qp Qp⟩
theorem LS {g:Gr} {p:Pt} (h:p.err g=0):((gQ g p).length=1/\uY g p ((gQ g p).getD 0 0)=p.v/\pB g p ((gQ g p).getD 0 0)=p.e)↔cg g p:=by
 have hp:=Pt.aF h;obtain⟨-,hv,he,-⟩:=Pt.aP h;have hV:p.v.Pairwise (·<·):=bY hv;have hE:p.e.Pairwise (·<·):=bY he;rw[<-KQ hp,tt];refine and_congr_right fun h1=>?_;obtain⟨l,hB⟩:=List.length_eq_one_iff.1 h1;have hk:gQ g p=[l.getD 0 0]:=by unfold gQ kq;rw[hB];simp
 have fT:pB g p (l.getD 0 0)=l:=by unfold pB GH;rw[hB];simp
 have dA:=lj hp;rw[hB,Qf,List.flatten_nil,Qh] at dA;have afh:l.Pairwise (·<=·):=x5 g p l (by rw[hB];simp);have hle:l=p.e:=by
  have hn:l.Nodup:=dA.nodup_iff.2 hp.en;have aU:l.Pairwise (·<·):=by
   have:=afh.and hn;exact this.imp fun {a b} k=>by obtain⟨k1,k2⟩:=k;exact Int.lt_iff_le_and_ne.2 ⟨k1,k2⟩
  exact nE aU hE fun x=>dA.mem_iff
 have VL:uY g p (l.getD 0 0)=tidy (fG g p.e):=by
  show tidy (fG g (pB g p (l.getD 0 0)))=_;rw[fT,hle]
 have h0:(gQ g p).getD 0 0=l.getD 0 0:=by rw[hk];rfl
 rw[h0,VL,fT,hle];have hds:∀ v,v∈fG g p.e↔∃ d∈p.ag,g.tail d=v:=fun v=>by
  rw[L3];constructor
  ·rintro ⟨e,he,q⟩
   have h2:=dV g e;have hd:2*e∈p.ag:=aw.2 (by rwa[show 2*e / 2=e by omega]);rcases q with q | q
   ·exact⟨2*e,hd,by rw[h2.1,q]⟩
   exact⟨aE (2*e),bu hd,by rw[aA,h2.2,q]⟩
  rintro ⟨d,hd,q⟩;refine⟨d / 2,aw.1 hd,?_⟩;rcases iC g d with ⟨j1,-⟩ | ⟨j1,-⟩
  ·exact Or.inl (j1.symm.trans q)
  exact Qo (j1.symm.trans q)
 constructor
 ·rintro ⟨q,-⟩ v Dd
  rw[<-q,(mw _).2,hds] at Dd;exact Dd
 intro q;refine⟨nE (mw _).1 hV fun v=>?_,rfl⟩;rw[(mw _).2,hds];exact⟨fun ⟨d,hd,e⟩=>by rw[<-e];exact (hp.aQ hd).1,q v⟩
end Plain
set_option maxRecDepth 100000 in
set_option maxHeartbeats 4000000 in
theorem xU (vg vp:Value) (g:Plain.Gr) (p:Plain.Pt) (w:World) (pO:p.v.length<=100000) (hg:dU w vg g) (hp:gD w vp p) :
  Calls Tryz.prog 32 #[vg,vp] w fun e w'=>e=.returned (.bool (Plain.kE g p))/\ai [] w w':=by
 have HG:=lh hg;have HP:=lh hp;obtain⟨eo,cap,rfl,hn,hm,dS,aO⟩:=hg;obtain⟨v1,v2,rfl,hv,he⟩:=hp;obtain⟨ao,ac,rfl,has,KZ,cD⟩:=hv;obtain⟨bo,bc,rfl,la,vD,bT⟩:=he;have IB:=lh cD;have Ci:=lh bT;have VA:=lh has;have Sv:=lh la;obtain⟨-,-,cG⟩:=dq w #[.int .i64 g.n,.slice eo g.e.length cap] #[.slice ao p.v.length ac,.slice bo p.e.length bc] 24 27;have b8:=lh cG;have eE:=lh (fun w2 h=>im w (g:=g) (p:=p) (eo:=eo) (ao:=ao) (bo:=bo) (cap:=cap) (ac:=ac) (bc:=bc) (w2:=w2) h);clear aO cD bT dS has la hn cG;obtain⟨x0,x1,y0,y1,di⟩:=eE.out _ (ai.refl _ _)
 go_enter Tryz.func32,Tryz.ntmps32
 go_wp2_with fail
 obtain⟨w1,sA⟩:∃ w1,((w.alloc (.cells #[.int .i64 g.n,.slice eo g.e.length cap] 24)).alloc (.cells #[.slice ao p.v.length ac,.slice bo p.e.length bc] 27))=w1:=⟨_,rfl⟩;rw[sA] at b8 eE ⊢;clear sA x0 x1 y0 y1 di;refine (xJ _ _ g p _ pO (HG.out.fresh b8.out) (HP.out.fresh b8.out)).mono ?_;rintro e w2 ⟨ov,rfl,gM,x7,bG⟩;have cA:=lh (b8.out.t bG);obtain⟨x0,x1,y0,y1,di⟩:=eE.out _ bG;clear bG;by_cases hr:p.err g=0
 ·obtain⟨xs,bh⟩:=x7 hr
  have lK:=lh bh;have HR:=lh hr;have BA:=lh (Plain.LS hr);obtain⟨uo,uc,rfl⟩:=bh.shape;obtain⟨K,hK⟩:∃ K,Plain.gQ g p=K:=⟨_,rfl⟩;rw[hr];rw[hK] at lK BA ⊢;clear bh gM x7 hr hK;by_cases h1:K.length=1
  ·obtain⟨gb,gc,RY⟩:=lK.out.some (by omega)
   simp only[Qa.injEq] at RY;obtain⟨rfl,-,-⟩:=RY;have c0:=lK.out.cell (k:=0) (by rw[lK.out.cells];omega);have c1:=lK.out.cell (k:=1) (by rw[lK.out.cells];omega);have r0:=lK.out.row (sq (Plain.uY g p) (Plain.pB g p) K 0 (by omega));have r1:=lK.out.row (vB (Plain.uY g p) (Plain.pB g p) K 0 (by omega));obtain⟨V,hV⟩:∃ V,Plain.uY g p (K.getD 0 0)=V:=⟨_,rfl⟩;obtain⟨E,hE⟩:∃ E,Plain.pB g p (K.getD 0 0)=E:=⟨_,rfl⟩;rw[hV] at r0;rw[hE] at r1;rw[hV,hE] at BA;obtain⟨u0,hu0⟩:∃ u0,xs.getD 0 undef=u0:=⟨_,rfl⟩;obtain⟨u1,Ik⟩:∃ u1,xs.getD 1 undef=u1:=⟨_,rfl⟩;have r1':ax w2 w1.heap.size (xs.getD 1 undef) E:=r1;have r0':ax w2 w1.heap.size (xs.getD 0 undef) V:=r0;rw[hu0] at c0 r0';rw[Ik] at c1 r1';have HPT:=lh (show gD w2 (.agg #[u0,u1]) ⟨V,E⟩ from⟨u0,u1,rfl,r0'.ints,r1'.ints⟩);have vH:=lh (HP.out.fresh cA.out);have bl:((K.length:Int)==1)=true:=by rw[h1];rfl
   have ash:0<K.length:=by omega
   have Oe:=lh (show Plain.kE g p=(decide (V=p.v)&&decide (E=p.e)) by
    rw[Bool.eq_iff_iff,Plain.jm,Bool.and_eq_true,decide_eq_true_iff,decide_eq_true_iff,<-BA.out];exact⟨fun k=>k.2.2,fun k=>⟨HR.out,h1,k⟩⟩)
   have Ss:=lh h1;clear r0 r1 r0' r1' hV hE hu0 Ik x0 x1 h1 lK
   go_wp2_with fail
   have aD:ai [] w2 w2.drew:=(ai.refl [] w2).drew;refine au (ai [] w2) [0,1,2,3,4,5,6,7,8,9,10,11,13,14] (Way.line [0,1,2,3,4,5,6,7,8,9,10,11,12,13,14] .done) (by kernel_rfl) (by kernel_rfl) ?_;simp only[Way.line]
   repeat
    first
     | (refine ar rfl (by rfl) (by rfl) (fun _ _ _ h=>h) aD ?_;simp only[Qb,Z1,Z2,Z3,Z4,Z5,Z6])
     | (refine aq (v:=?_) rfl (by rfl) (by rfl) (fun _ _ _ h=>h) aD (fun w' aK=>?_) ?_;rotate_left;(focus (have fU:=aK.c c0;have gX:=aK.c c1;have nP:=aK.c y0;have Fx:=aK.c y1;clear aK;go_simp;try with_reducible rfl));simp only[Qb,Z1,Z2,Z3,Z4,Z5,Z6])
     | (refine ak rfl (by rfl) (by rfl) aD ?_;simp only[Qb,Z1,Z2,Z3,Z4,Z5,Z6])
   refine aC rfl (by rfl) (by rfl) (fun K hK=>?_);go_simp;refine (LG _ _ ⟨V,E⟩ p _ (HPT.out.fresh aD) (vH.out.fresh aD)).mono ?_;rintro e w3 ⟨rfl,lJ⟩;have bD:=aD.t lJ;clear aD lJ;have aD:=bD;clear bD;refine hK.out _ _ (fun _=>aD) ?_;clear hK K
   try simp only
   repeat
    first
     | (refine ar rfl (by rfl) (by rfl) (fun _ _ _ h=>h) aD ?_;simp only[Qb,Z1,Z2,Z3,Z4,Z5,Z6])
     | (refine aq (v:=?_) rfl (by rfl) (by rfl) (fun _ _ _ h=>h) aD (fun w' aK=>?_) ?_;rotate_left;(focus (skip;clear aK;go_simp;try with_reducible rfl));simp only[Qb,Z1,Z2,Z3,Z4,Z5,Z6])
     | (refine ak rfl (by rfl) (by rfl) aD ?_;simp only[Qb,Z1,Z2,Z3,Z4,Z5,Z6])
   refine aB ?_;have dD:=lh (cA.out.t aD);clear aD c0 c1 y0 y1 di;generalize w3=w4 at *;go_wp2;go_ret;exact⟨bB (by show _=Plain.kE g p;rw[Oe.out]),dD.out⟩
  have bl:((K.length:Int)==1)=false:=by rw[beq_eq_false_iff_ne];omega
  have Oe:=lh (show Plain.kE g p=false by
   rw[Qj];intro k;exact h1 (BA.out.2 (Plain.jm.1 k).2).1)
  clear x0 x1 h1
  go_wp2_with fail
  have aD:ai [] w2 w2.drew:=(ai.refl [] w2).drew;refine au (ai [] w2) [0,1,2,3,4,5,6,7,8,9,10,11,13,14] (Way.line [0,1,2,3,4,5,6,7,8,9,10,11,12,13,14] .done) (by kernel_rfl) (by kernel_rfl) ?_;simp only[Way.line]
  repeat
   first
    | (refine ar rfl (by rfl) (by rfl) (fun _ _ _ h=>h) aD ?_;simp only[Qb,Z1,Z2,Z3,Z4,Z5,Z6])
    | (refine aq (v:=?_) rfl (by rfl) (by rfl) (fun _ _ _ h=>h) aD (fun w' aK=>?_) ?_;rotate_left;(focus (have fU:=aK.c y0;have gX:=aK.c y1;clear aK;go_simp;try with_reducible rfl));simp only[Qb,Z1,Z2,Z3,Z4,Z5,Z6])
    | (refine ak rfl (by rfl) (by rfl) aD ?_;simp only[Qb,Z1,Z2,Z3,Z4,Z5,Z6])
  refine aB ?_;have dD:=lh (cA.out.t aD);clear aD y0 y1 di;generalize w2.drew=w4 at *;go_wp2;go_ret;exact⟨bB (by show _=Plain.kE g p;rw[Oe.out]),dD.out⟩
 have Oe:=lh (show Plain.kE g p=false by
  rw[Qj];intro k;exact hr (Plain.jm.1 k).1)
 obtain rfl:=gM hr;obtain⟨er,qK⟩:∃ er,p.err g=er:=⟨_,rfl⟩;rw[qK] at hr ⊢;have bz:(er==0)=false:=by rw[beq_eq_false_iff_ne];exact hr
 clear hr qK x0 x1 gM x7
 go_wp2_with fail
 have aD:ai [] w2 w2.drew:=(ai.refl [] w2).drew;refine au (ai [] w2) [0,1,2,3,4,5,6,7,8,9,10,11,13,14] (Way.line [0,1,2,3,4,5,6,7,8,9,10,11,12,13,14] .done) (by kernel_rfl) (by kernel_rfl) ?_;simp only[Way.line]
 repeat
  first
   | (refine ar rfl (by rfl) (by rfl) (fun _ _ _ h=>h) aD ?_;simp only[Qb,Z1,Z2,Z3,Z4,Z5,Z6])
   | (refine aq (v:=?_) rfl (by rfl) (by rfl) (fun _ _ _ h=>h) aD (fun w' aK=>?_) ?_;rotate_left;(focus (have fU:=aK.c y0;have gX:=aK.c y1;clear aK;go_simp;try with_reducible rfl));simp only[Qb,Z1,Z2,Z3,Z4,Z5,Z6])
   | (refine ak rfl (by rfl) (by rfl) aD ?_;simp only[Qb,Z1,Z2,Z3,Z4,Z5,Z6])
 refine aB ?_;have dD:=lh (cA.out.t aD);clear aD y0 y1 di;generalize w2.drew=w4 at *;go_wp2;go_ret;exact⟨bB (by show _=Plain.kE g p;rw[Oe.out]),dD.out⟩
theorem dy (v:Value) (g:Plain.Gr) (d:Nat) (w:World) (hd:d / 2<g.e.length) (_hm:g.e.length<4294967296) (h:dU w v g) :
  Calls Tryz.prog 65 #[v,.int .i64 d] w fun e w'=>e=.returned (.int .i64 (g.tail d))/\ai [] w w':=by
 obtain⟨eo,cap,rfl,-,-,-,aO⟩:=h;obtain⟨b,off,rfl,gy,cG⟩:=aO (d / 2) hd;have b8:=lh ((ai.refl [] w).alloc (.cells #[.int .i64 g.n,.slice (some ⟨b,off,none⟩) g.e.length cap] 24));obtain⟨e,he⟩:∃ e,d / 2=e:=⟨_,rfl⟩;rw[he] at hd gy cG;have c0:=fun o=>dC gy o;have c1:=fun o=>dC cG o;clear aO gy cG;rcases (show d=2*e\/d=2*e+1 by omega) with rfl | rfl
 ·obtain⟨q1,q2⟩:=rF e
  have HE:=lh (kj g e).1;rw[HE.out];clear he;generalize ((2*e:Nat):Int)=dd at *;generalize (g.ends e).1=x at *;generalize (g.ends e).2=y at *
  go_enter Tryz.func65,Tryz.ntmps65
  go_wp2;go_ret;exact⟨rfl,b8.out⟩
 obtain⟨q1,q2⟩:=vM e;have HE:=lh (lU g e).1;rw[HE.out];clear he;generalize ((2*e+1:Nat):Int)=dd at *;generalize (g.ends e).1=x at *;generalize (g.ends e).2=y at *
 go_enter Tryz.func65,Tryz.ntmps65
 go_wp2;go_ret;exact⟨rfl,b8.out⟩
namespace Plain
theorem pd (l:List Int):(twins l).length=l.length:=by simp[twins]
theorem FV {l:List Int} {k:Nat} (hk:k<l.length):(twins l).take (k+1)=(twins l).take k++[aE (l.getD (l.length - 1 - k) 0)]:=by
 have Cg:k<(twins l).length:=by rw[pd];exact hk
 rw[Qc Cg]
 congr 2
 unfold twins;have h1:(l.map aE).reverse[k]'(by simpa using hk)=(l.map aE)[l.length - 1 - k]'(by simp;omega):=by rw[List.getElem_reverse];simp
 refine h1.trans ?_;rw[List.getElem_map];simp[List.getD,show l.length - 1 - k<l.length by omega]
end Plain
set_option maxRecDepth 100000 in
set_option maxHeartbeats 2000000 in
theorem AO (v:Value) (l:List Int) (w:World) (hl:l.length<=1000000) (hb:∀ d∈l,0<=d/\d<4294967296) (h:aJ w v l) :
  Calls Tryz.prog 116 #[v] w fun e w'=>∃ v',e=.returned v'/\ax w' w.heap.size v' (Plain.twins l)/\ai [] w w':=by
 have HI:=lh h;have HB:=lh hb;obtain⟨ao,cap,rfl,-,hm,-⟩:=h;clear hb
 go_enter Tryz.func116,Tryz.ntmps116
 go_wp2_with (at_make;refine mf rfl _ _ rfl (B:=w.heap.size) (n:=l.length) rfl rfl (Qn _) (by omega) ?_;intro v1 w1 r1 c1 f1;obtain⟨o1,k1,rfl⟩:=r1.shape;have R1:=lh r1;have C1:=lh c1;clear r1 c1 f1)
 have HTA:=lh (show (Plain.twins l).take (l.length - l.length)=[] by simp)
 go_loopw [3,4] (fun c3 c4 wr=>∃ i:Nat,i<=l.length/\c4=.int .i64 ((i:Int) - 1)/\ax wr w.heap.size c3 ((Plain.twins l).take (l.length - i))/\ai [] w wr) (fun _ c4 _=>(intOf c4+1).toNat)
 case atStart=>exact⟨l.length,Qn _,by go_num,by rw[HTA.out];exact R1.out,C1.out⟩
 case round =>
  obtain⟨i,hi,iW,bd,hc⟩:=hrel;have bU:=lh bd;have HC:=lh hc;obtain⟨oo,oc,rfl⟩:=bd.shape;have uW:=lh hc.size;clear bd hc;cases i with
  | succ j =>
   rw[show ((j+1:Nat):Int) - 1=(j:Int) by omega] at iW;subst iW;have sH:j<l.length:=hi;obtain⟨rb,uR,rfl,rc⟩:=aJ.cellAt HI.out sH;have cZ:=HC.out.c rc;have mm:=HB.out _ (Plain.aZ sH);have sE:=lh (show (Plain.twins l).take (l.length - j)=(Plain.twins l).take (l.length - (j+1))++[Plain.aE (l.getD j 0)] by
    have:=Plain.FV (l:=l) (k:=l.length - (j+1)) (by omega);rw[show l.length - (j+1)+1=l.length - j by omega,show l.length - 1 - (l.length - (j+1))=j by omega] at this;exact this)
   obtain⟨d,hd⟩:∃ d:Nat,l.getD j 0=d:=⟨(l.getD j 0).toNat,by omega⟩;rw[hd] at cZ mm sE;have BV:=lW d (by omega);have IT:bn (Plain.aE (d:Int)):=by unfold Plain.aE;split <;> exact bn.mk (by omega) (by omega)
   have ql:((Plain.twins l).take (l.length - (j+1))).length<4294967290:=by rw[Qm];omega
   obtain⟨M,hM⟩:∃ M,(Plain.twins l).take (l.length - (j+1))=M:=⟨_,rfl⟩;rw[hM] at bU sE ql ⊢;have iH:=lh (show ax wr w.heap.size (.slice oo M.length oc) M from bU.out);have ZK:=lh sH;clear rc hd hM bU hi mm hl;generalize Plain.aE (d:Int)=t at *
   go_wp2_with (at_builtin;refine fA rfl _ _ rfl (B:=w.heap.size) (v:=.slice oo _ oc) rfl rfl iH.out IT uW.out ql rfl ?_;intro v6 w6 r6 c6 f6;have R6:=lh r6;have C6:=lh c6;clear r6 c6 f6)
   go_roundw
   case rel=>exact⟨j,Nat.le_of_lt ZK.out,by go_num,by rw[sE.out];exact R6.out,HC.out.trans C6.out (fun j hj=>Qo (iH.out.low j (by rw[<-iH.out.aL];exact hj)).1)⟩
   case measure=>simp[intOf]
  | zero =>
   rw[show ((0:Nat):Int) - 1 = -1 by omega] at iW;subst iW;have HF:=lh (show (Plain.twins l).take (l.length - 0)=Plain.twins l by rw[Nat.sub_zero,List.take_of_length_le (by rw[Plain.pd];exact Qn _)]);have y7:=lh (show ax wr w.heap.size (.slice oo (Plain.twins l).length oc) (Plain.twins l) by have:=bU.out;rwa[HF.out] at this);rw[HF.out];clear bU;go_wp2;go_ret;exact⟨_,rfl,y7.out,HC.out⟩
set_option maxRecDepth 100000 in
set_option maxHeartbeats 2000000 in
theorem tV (ve vd:Value) (E l:List Int) (w:World) (hE:E.length<=1000000) (_hl:l.length<=1000000) (hb:∀ e∈E,0<=e/\e<1000000) (h:aJ w ve E) (h2:aJ w vd l) :
  Calls Tryz.prog 118 #[ve,vd] w fun e w'=>∃ v',e=.returned v'/\ax w' w.heap.size v' (Plain.aY E l)/\ai [] w w':=by
 have HI:=lh h;have HD:=lh h2;have HB:=lh hb;obtain⟨ao,cap,rfl,-,hm,-⟩:=h;obtain⟨bo,afR,rfl,-,jS,-⟩:=h2;clear hb
 go_enter Tryz.func118,Tryz.ntmps118
 go_wp2_with fail
 go_loopw [5,7,10] (fun c5 _ c10 wr=>∃ k:Nat,k<=E.length/\c10=.int .i64 k/\ax wr w.heap.size c5 (Plain.aY (E.take k) l)/\ai [] w wr) (fun _ _ c10 _=>E.length - (intOf c10).toNat)
 case atStart=>exact⟨0,Qq _,rfl,gp _ _,ai.refl _ _⟩
 case round =>
  obtain⟨k,hk,rfl,bd,hc⟩:=hrel;have bU:=lh bd;have HC:=lh hc;obtain⟨oo,oc,rfl⟩:=bd.shape;have uW:=lh hc.size;clear bd hc;by_cases aU:k<E.length
  ·obtain⟨rb,uR,rfl,rc⟩:=aJ.cellAt HI.out aU
   have cZ:=HC.out.c rc;have mm:=HB.out _ (Plain.aZ aU);have HFK:=lh (show Plain.aY (E.take (k+1)) l=Plain.aY (E.take k) l++(if (!(l.contains (2*E.getD k 0))&&!(l.contains (2*E.getD k 0+1)))=true then [E.getD k 0] else []) from Plain.jb _ aU);obtain⟨e,he⟩:∃ e,E.getD k 0=e:=⟨_,rfl⟩;rw[he] at cZ mm HFK;have ww0:IntKind.i64.wrap (2*e)=2*e:=IntWalk.i64_in _ (by omega);have ww1:IntKind.i64.wrap (2*e+1)=2*e+1:=IntWalk.i64_in _ (by omega);have IE:bn e:=bn.mk (by omega) (by omega);have ql:(Plain.aY (E.take k) l).length<4294967290:=by have:(Plain.aY (E.take k) l).length<=(E.take k).length:=List.length_filter_le _ _;rw[Qm] at this;omega
   obtain⟨M,hM⟩:∃ M,Plain.aY (E.take k) l=M:=⟨_,rfl⟩;rw[hM] at bU HFK ql ⊢;clear rc he hM mm
   go_wp2_with fail
   refine (sv _ l (2*e) _ (HD.out.fresh HC.out)).mono ?_;rintro _ w3 ⟨rfl,rfl⟩;have Xw:=bU;have dD:=HC;clear cZ;cases h0:decide (2*e∈l) with
   | true =>
    have HK:=lh (HFK.out.trans (by rw[if_neg (by simp[of_decide_eq_true h0]),Qh]));clear h0;go_wp2
    go_roundw
    case rel=>exact⟨k+1,by omega,by go_num,by rw[HK.out];exact Xw.out,dD.out⟩
    case measure=>simp[intOf];omega
   | false =>
    have H0:=lh (of_decide_eq_false h0);clear h0
    go_wp2_with fail
    refine (sv _ l (2*e+1) _ (HD.out.fresh dD.out)).mono ?_;rintro _ w4 ⟨rfl,rfl⟩;have Cn:=Xw;have kh:=dD;cases h1:decide (2*e+1∈l) with
    | true =>
     have HK:=lh (HFK.out.trans (by rw[if_neg (by simp[of_decide_eq_true h1]),Qh]));clear h1;go_wp2
     go_roundw
     case rel=>exact⟨k+1,by omega,by go_num,by rw[HK.out];exact Cn.out,kh.out⟩
     case measure=>simp[intOf];omega
    | false =>
     have HK:=lh (HFK.out.trans (by rw[if_pos (by simp[of_decide_eq_false h1,H0.out])]));have HS4:=lh kh.out.size;clear h1
     go_wp2_with (at_builtin;refine fA rfl _ _ rfl (B:=w.heap.size) (v:=.slice oo _ oc) rfl rfl Cn.out IE HS4.out ql rfl ?_;intro v6 w6 r6 c6 f6;have R6:=lh r6;have C6:=lh c6;clear r6 c6 f6)
     go_roundw
     case rel=>exact⟨k+1,by omega,by go_num,by rw[HK.out];exact R6.out,kh.out.trans C6.out (fun j hj=>Qo (Cn.out.low j (by rw[<-Cn.out.aL];exact hj)).1)⟩
     case measure=>simp[intOf];omega
  have e:k=E.length:=by omega
  subst e;rw[Ql] at bU ⊢;clear hk aU;go_wp2;go_ret;exact⟨_,rfl,bU.out,HC.out⟩
end Go.Proofs.YtbkjljffnkdcjaaGreat
