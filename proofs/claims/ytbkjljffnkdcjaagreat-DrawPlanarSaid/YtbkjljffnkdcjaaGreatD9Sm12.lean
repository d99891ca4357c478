/- law 12's small; draw.Planar: contracts. Conditions: a graph, a part that lie in memory and read so. -/
import Derived.Test.YtbkjljffnkdcjaaGreatD9TurnsW
open List renaming mem_cons→Qa,mem_cons_of_mem→Qb,mem_singleton→Qc,nodup_append→Qe,flatMap_cons→Qg,mem_flatMap→Qh,mem_append→Qi,append_of_mem→Qj,exists_mem_of_ne_nil→Qk,not_mem_nil→Ql,nodup_cons→Qm,flatten_append→Qp,flatMap_append→Qq,filter_eq_self→Qr,flatten_cons→Qt,reverse_perm→Qu,Perm→Qw,perm_middle→Qx,flatten_nil→Qy,mem_reverse→QA,append_nil→QB,length_map→QC
open Bool renaming false_xor→Qd,xor_false→Qf,xor_assoc→Qo,true_and→Qs,false_and→QE,xor_self→QF
open Classical renaming choose_spec→Qn,choose→Qz
open Or renaming inl→Qv,inr→QD
open Iff renaming rfl→QG
namespace Go.Proofs.YtbkjljffnkdcjaaGreat
open Go.RowKit Go.Maps
namespace Plain
def rP (g:Gr) (p:Pt):Bool:=iA g p []&&decide (p.e.length<=24)&&decide (p.v.length<=20)
theorem Ia {g:Gr} {p:Pt} (h:rP g p=true):p.e.length<=24/\p.v.length<=20/\g.e.length<=60:=by
 unfold rP iA iY at h;simp only[Bool.and_eq_true,decide_eq_true_iff] at h;omega
end Plain
set_option maxRecDepth 100000 in
set_option maxHeartbeats 4000000 in
theorem DZ (vg vp:Value) (g:Plain.Gr) (p:Plain.Pt) (w:World) (hg:dU w vg g) (hp:gD w vp p) :
  Calls Tryz.prog 13 #[vg,vp] w fun e w'=>e=.returned (.bool (Plain.rP g p))/\ai [] w w':=by
 have HG:=lh hg;have HP:=lh hp;obtain⟨eo,cap,rfl,hn,hm,dS,aO⟩:=hg;obtain⟨v1,v2,rfl,hv,he⟩:=hp;obtain⟨ao,ac,rfl,has,KZ,cD⟩:=hv;obtain⟨bo,bc,rfl,la,vD,bT⟩:=he;have IB:=lh cD;have Ci:=lh bT;have VA:=lh has;have Sv:=lh la;obtain⟨-,-,cG⟩:=dq w #[.int .i64 g.n,.slice eo g.e.length cap] #[.slice ao p.v.length ac,.slice bo p.e.length bc] 24 27;have b8:=lh cG;have eE:=lh (fun w2 h=>im w (g:=g) (p:=p) (eo:=eo) (ao:=ao) (bo:=bo) (cap:=cap) (ac:=ac) (bc:=bc) (w2:=w2) h);clear aO cD bT dS has la hn cG;obtain⟨x0,x1,y0,y1,di⟩:=eE.out _ (ai.refl _ _)
 go_enter Tryz.func13,Tryz.ntmps13
 go_wp2_with fail
 obtain⟨w1,sA⟩:∃ w1,((w.alloc (.cells #[.int .i64 g.n,.slice eo g.e.length cap] 24)).alloc (.cells #[.slice ao p.v.length ac,.slice bo p.e.length bc] 27))=w1:=⟨_,rfl⟩;rw[sA] at b8 eE ⊢;clear sA x0 x1 y0 y1 di;refine (xa _ _ _ g p [] _ (HG.out.fresh b8.out) (HP.out.fresh b8.out) (qP _)).mono ?_;rintro e w2 ⟨rfl,bG⟩;have cA:=lh (b8.out.t bG);obtain⟨x0,x1,y0,y1,di⟩:=eE.out _ bG;have ir:=lh (show Plain.rP g p=(Plain.iA g p []&&decide (p.e.length<=24)&&decide (p.v.length<=20)) from rfl);clear bG;cases hb:Plain.iA g p [] with
 | false =>
  rw[hb] at ir;rw[show bit false=0 from rfl];clear hb;go_wp2;go_ret;exact⟨bB (by rw[ir.out];first | rfl | simp <;> omega),cA.out⟩
 | true =>
  rw[hb] at ir;rw[show bit true=1 from rfl];clear hb;by_cases h1:p.e.length<=24
  ·have e1:decide (p.e.length<=24)=true:=decide_eq_true h1
   have i1:(p.e.length:Int)<=24:=by omega
   rw[e1] at ir;by_cases h2:p.v.length<=20
   ·have e2:decide (p.v.length<=20)=true:=decide_eq_true h2
    have i2:(p.v.length:Int)<=20:=by omega
    rw[e2] at ir;go_wp2;go_ret;exact⟨bB (by rw[ir.out];first | rfl | simp <;> omega),cA.out⟩
   have e2:decide (p.v.length<=20)=false:=decide_eq_false h2;have i2:¬ (p.v.length:Int)<=20:=by omega
   rw[e2] at ir;go_wp2;go_ret;exact⟨bB (by rw[ir.out];first | rfl | simp <;> omega),cA.out⟩
  have e1:decide (p.e.length<=24)=false:=decide_eq_false h1;have i1:¬ (p.e.length:Int)<=24:=by omega
  rw[e1] at ir;go_wp2;go_ret;exact⟨bB (by rw[ir.out];first | rfl | simp <;> omega),cA.out⟩
set_option maxRecDepth 100000 in
set_option maxHeartbeats 4000000 in
theorem GF (vg vp:Value) (g:Plain.Gr) (p:Plain.Pt) (w:World) (pO:p.v.length<=100000) (hg:dU w vg g) (hp:gD w vp p) :
  Calls Tryz.prog 16 #[vg,vp] w fun e w'=>∃ err t,e=.returned (.bool (decide (err=0)))/\Plain.iZ g p err t/\ai [] w w':=by
 have HG:=lh hg;have HP:=lh hp;obtain⟨eo,cap,rfl,hn,hm,dS,aO⟩:=hg;obtain⟨v1,v2,rfl,hv,he⟩:=hp;obtain⟨ao,ac,rfl,has,KZ,cD⟩:=hv;obtain⟨bo,bc,rfl,la,vD,bT⟩:=he;have IB:=lh cD;have Ci:=lh bT;have VA:=lh has;have Sv:=lh la;obtain⟨-,-,cG⟩:=dq w #[.int .i64 g.n,.slice eo g.e.length cap] #[.slice ao p.v.length ac,.slice bo p.e.length bc] 24 27;have b8:=lh cG;have eE:=lh (fun w2 h=>im w (g:=g) (p:=p) (eo:=eo) (ao:=ao) (bo:=bo) (cap:=cap) (ac:=ac) (bc:=bc) (w2:=w2) h);clear aO cD bT dS has la hn cG;obtain⟨x0,x1,y0,y1,di⟩:=eE.out _ (ai.refl _ _)
 go_enter Tryz.func16,Tryz.ntmps16
 go_wp2_with fail
 obtain⟨w1,sA⟩:∃ w1,((w.alloc (.cells #[.int .i64 g.n,.slice eo g.e.length cap] 24)).alloc (.cells #[.slice ao p.v.length ac,.slice bo p.e.length bc] 27))=w1:=⟨_,rfl⟩;rw[sA] at b8 eE ⊢;clear sA x0 x1 y0 y1 di;refine (tj _ _ g p _ pO (HG.out.fresh b8.out) (HP.out.fresh b8.out)).mono ?_;rintro e w2 ⟨v,err,t,rfl,Kv,-,bG⟩;have cA:=lh (b8.out.t bG);have HBR:=lh Kv;clear bG Kv;by_cases h:err=0
 ·subst h
  go_wp2;go_ret;exact⟨0,t,rfl,HBR.out,cA.out⟩
 have hb:(err==0)=false:=by simpa using h
 go_wp2;go_ret;exact⟨err,t,bB (by first | exact (decide_eq_false h).symm | simp[h,hb]),HBR.out,cA.out⟩
end Go.Proofs.YtbkjljffnkdcjaaGreat
namespace Go.Proofs.YtbkjljffnkdcjaaGreat.Plain
def par (f:Int->Bool):List Int->Bool
 | []=>false
 | d :: l=>f d ^^ par f l
theorem wh (f:Int->Bool):∀ l m:List Int,par f (l++m)=(par f l ^^ par f m)
 | [],m=>by simp[par]
 | d :: l,m=>by simp[par,wh f l m]
theorem Et {f:Int->Bool} {l m:List Int} (h:l.Perm m):par f l=par f m:=by
 induction h with
 | nil=>rfl
 | cons x _ ih=>simp[par,ih]
 | swap x y l=>simp only[par];cases f x <;> cases f y <;> simp
 | trans _ _ ih1 ih2=>rw[ih1,ih2]
theorem kI {f:Int->Bool}:∀ {l:List Int},(∀ d∈l,f d=false)->par f l=false
 | [],_=>rfl
 | d :: l,h=>by simp[par,h d (by simp),kI (l:=l) fun e he=>h e (Qb _ he)]
theorem pn {f k:Int->Bool}:∀ {l:List Int},(∀ d∈l,f d=k d)->par f l=par k l
 | [],_=>rfl
 | d :: l,h=>by simp[par,h d (by simp),pn (l:=l) fun e he=>h e (Qb _ he)]
theorem sw (f k:Int->Bool):∀ l:List Int,par (fun d=>f d ^^ k d) l=(par f l ^^ par k l)
 | []=>rfl
 | d :: l=>by simp only[par,sw f k l];cases f d <;> cases k d <;> cases par f l <;> cases par k l <;> rfl
theorem j' {f:Int->Bool} {x:Int}:∀ {l:List Int},l.Nodup->x∈l->f x=true->(∀ d∈l,d≠x->f d=false)->par f l=true
 | [],_,hx,_,_=>by simp at hx
 | d :: l,hn,hx,hf,ho=>by
  rw[Qm] at hn;by_cases e:d=x
  ·subst e
   simp[par,hf,kI fun e he=>ho e (Qb _ he) fun q=>hn.1 (q ▸ he)]
  have hx:x∈l:=by rcases Qa.1 hx with q | q;exact absurd q.symm e;exact q
  simp[par,ho d (by simp) e,j' hn.2 hx hf fun e he=>ho e (Qb _ he)]
section
variable (b : Int -> Int) (c : Int -> Bool)
def dZ (d:Int) (s:Bool):Int:=4*(d / 2)+(if (s ^^ (decide (d % 2=1)&&c (d / 2)))=true then 2 else 0)+d % 2
def cvD (x:Int):Int:=2*(x / 4)+x % 2
def cvS (x:Int):Bool:=decide (x / 2 % 2=1) ^^ (decide (x % 2=1)&&c (x / 4))
def M9 (x:Int):Int:=dZ c (b (cvD x)) (cvS c x ^^ c (cvD x / 2))
end
variable {b : Int -> Int} {c : Int -> Bool}
theorem JN (d:Int) (s:Bool):dZ c d s / 4=d / 2/\dZ c d s % 2=d % 2/\(dZ c d s / 2 % 2=1↔(s ^^ (decide (d % 2=1)&&c (d / 2)))=true):=by
 unfold dZ;cases h:(s ^^ (decide (d % 2=1)&&c (d / 2)))
 ·simp only[Bool.false_eq_true,if_false,iff_false]
  refine⟨by omega,by omega,by omega⟩
 simp only[if_true,iff_true];refine⟨by omega,by omega,by omega⟩
theorem mW (d:Int) (s:Bool):cvD (dZ c d s)=d:=by
 obtain⟨h1,h2,-⟩:=JN (c:=c) d s;unfold cvD;rw[h1,h2];omega
theorem BW (d:Int) (s:Bool):cvS c (dZ c d s)=s:=by
 obtain⟨h1,h2,h3⟩:=JN (c:=c) d s;unfold cvS;rw[h1,h2];have e:decide (dZ c d s / 2 % 2=1)=(s ^^ (decide (d % 2=1)&&c (d / 2))):=by
  cases h:(s ^^ (decide (d % 2=1)&&c (d / 2)))
  ·rw[h] at h3;simpa using h3
  rw[h] at h3;simpa using h3
 rw[e];cases s <;> cases (decide (d % 2=1)&&c (d / 2)) <;> rfl
theorem UO {d e:Int} {s t:Bool} (h:dZ c d s=dZ c e t):d=e/\s=t:=⟨by rw[<-mW (c:=c) d s,h,mW],by rw[<-BW (c:=c) d s,h,BW]⟩
theorem vO (d:Int) (s:Bool):M9 b c (dZ c d s)=dZ c (b d) (s ^^ c (d / 2)):=by unfold M9;rw[mW,BW]
theorem Nz (d:Int) (s:Bool):dZ c d s / 2=2*(d / 2)+(if (s ^^ (decide (d % 2=1)&&c (d / 2)))=true then 1 else 0):=by
 unfold dZ;split <;> omega
theorem Ph (d:Int) (s:Bool):aE (dZ c d s)=dZ c (aE d) (s ^^ c (d / 2)):=by
 have h1:=bA d;unfold dZ;rw[h1];rcases G0 d with ⟨e1,e2⟩ | ⟨e1,e2⟩
 ·have m0:d % 2=0:=by omega
  have m1:aE d % 2=1:=by omega
  rw[m0,m1];have:(if (s ^^ (decide ((0:Int)=1)&&c (d / 2)))=true then (2:Int) else 0)=if (s ^^ c (d / 2) ^^ (decide ((1:Int)=1)&&c (d / 2)))=true then 2 else 0:=by
   cases s <;> cases c (d / 2) <;> simp
  rw[this];unfold aE;split <;> split <;> omega
 have m0:d % 2=1:=by omega
 have m1:aE d % 2=0:=by omega
 rw[m0,m1];have:(if (s ^^ (decide ((1:Int)=1)&&c (d / 2)))=true then (2:Int) else 0)=if (s ^^ c (d / 2) ^^ (decide ((0:Int)=1)&&c (d / 2)))=true then 2 else 0:=by
  cases s <;> cases c (d / 2) <;> simp
 rw[this];unfold aE;split <;> split <;> omega
def lift (c:Int->Bool):Bool->List Int->List Int
 | _,[]=>[]
 | s,d :: l=>dZ c d s :: lift c (s ^^ c (d / 2)) l
theorem wN {z:Int}:∀ {l:List Int} {x:Int} {s:Bool},Trail b x l z->Trail (M9 b c) (dZ c x s) (lift c (s ^^ c (x / 2)) l) (dZ c z (s ^^ par (fun d=>c (d / 2)) (x :: l)))
 | [],x,s,h=>by
  have h:b x=z:=h;show M9 b c (dZ c x s)=_;rw[vO,h];simp[par]
 | d :: l,x,s,h=>by
  have ih:=wN (s:=s ^^ c (x / 2)) h.2;refine⟨by rw[vO,h.1],?_⟩;have e:(s ^^ c (x / 2) ^^ par (fun d=>c (d / 2)) (d :: l))=(s ^^ par (fun d=>c (d / 2)) (x :: d :: l)):=by simp[par]
  rw[<-e];exact ih
theorem Aa {l:List Int} (h:Ring b l) (he:par (fun d=>c (d / 2)) l=false) (s:Bool):Ring (M9 b c) (lift c s l):=by
 cases l with
 | nil=>exact h.elim
 | cons x l =>
  have:=wN (c:=c) (s:=s) (show Trail b x l x from h);rw[he,Qf] at this;exact this
theorem Ai:∀ (l:List Int) (s:Bool),(lift c s l++lift c (!s) l).Perm (l.flatMap fun d=>[dZ c d false,dZ c d true])
 | [],_=>by simp[lift]
 | d :: l,s=>by
  have ih:=Ai l (s ^^ c (d / 2));have e:(!s ^^ c (d / 2))=!(s ^^ c (d / 2)):=by cases s <;> simp
  show (dZ c d s :: (lift c (s ^^ c (d / 2)) l++dZ c d (!s) :: lift c (!s ^^ c (d / 2)) l)).Perm (dZ c d false :: dZ c d true :: _);rw[e];have h1:(dZ c d s :: (lift c (s ^^ c (d / 2)) l++dZ c d (!s) :: lift c (!(s ^^ c (d / 2))) l)).Perm (dZ c d s :: dZ c d (!s) :: (lift c (s ^^ c (d / 2)) l++lift c (!(s ^^ c (d / 2))) l)):=Qw.cons _ Qx;refine h1.trans ?_;cases s
  ·exact (ih.cons _).cons _
  exact (Qw.swap _ _ _).trans ((ih.cons _).cons _)
theorem vX:∀ B:List (List Int),(B.flatMap fun l=>[lift c false l,lift c true l]).flatten.Perm (B.flatten.flatMap fun d=>[dZ c d false,dZ c d true])
 | []=>by simp
 | l :: B=>by
  have ih:=vX B;simp only[Qg,Qp,Qt,Qq,Qy,QB];exact (Ai l false).append ih
theorem tO:∀ C:List (List Int),(C.flatMap fun l=>[l.map (dZ c · false),l.map (dZ c · true)]).flatten.Perm (C.flatten.flatMap fun d=>[dZ c d false,dZ c d true])
 | []=>by simp
 | l :: C=>by
  have ih:=tO C;simp only[Qg,Qp,Qt,Qq,Qy,QB];refine Qw.append ?_ ih;clear ih
  induction l with
  | nil=>simp
  | cons d l ih =>
   simp only[List.map_cons,Qg];show (dZ c d false :: (l.map (dZ c · false)++dZ c d true :: l.map (dZ c · true))).Perm (dZ c d false :: dZ c d true :: _);exact Qw.cons _ (Qx.trans (ih.cons _))
theorem tN:∀ {K:List Int},K.Nodup->(K.flatMap fun d=>[dZ c d false,dZ c d true]).Nodup
 | [],_=>by simp
 | d :: K,h=>by
  rw[Qm] at h;rw[Qg,Qe];refine⟨?_,tN h.2,fun x hx y hy e=>?_⟩
  ·simp only[Qm,Qc,Ql,not_false_iff,List.nodup_nil,and_true]
   exact fun e=>by cases (UO e).2
  obtain⟨f,hf,hy⟩:=Qh.1 hy;have e1:cvD x=d:=by
   rcases Qa.1 hx with q | q
   ·rw[q,mW]
   rw[Qc.1 q,mW]
  have e2:cvD y=f:=by
   rcases Qa.1 hy with q | q
   ·rw[q,mW]
   rw[Qc.1 q,mW]
  rw[e,e2] at e1;exact h.1 (e1 ▸ hf)
theorem km {K:List Int} {x:Int}:x∈(K.flatMap fun d=>[dZ c d false,dZ c d true])↔∃ d∈K,∃ s,x=dZ c d s:=by
 rw[Qh];constructor
 ·rintro ⟨d,hd,hx⟩
  rcases Qa.1 hx with q | q
  ·exact⟨d,hd,_,q⟩
  exact⟨d,hd,_,Qc.1 q⟩
 rintro ⟨d,hd,s,rfl⟩;exact⟨d,hd,by cases s <;> simp⟩
theorem B7 {α:Type} (f k:List Int->α):∀ B:List (List Int),(B.flatMap fun l=>[f l,k l]).length=2*B.length
 | []=>rfl
 | l :: B=>by rw[Qg,List.length_append,B7 f k B];simp;omega
theorem UR {B C:List (List Int)} {S K:List Int} (hb:bC b B) (hB:B.flatten.Perm K) (hSn:S.Nodup) (hK:∀ d,d∈K↔d / 2∈S)
  (hC:bC (fun x=>b (aE x)) C) (N4:C.flatten.Perm K) (YS:B.length+C.length=2+S.length)
  (lQ:∀ Q:Int->Int->Prop,qw Q->(∀ x∈K,Q x (b x))->(∀ x∈K,Q x (aE x))->∀ x∈K,∀ y∈K,Q x y)
  (pA:∀ l∈B,par (fun d=>c (d / 2)) l=false) :
  ∃ χ:Int->Bool,(∀ d∈K,χ (b (aE d))=χ d)/\∀ d∈K,χ (aE d)=(χ d ^^ c (d / 2)):=by
 have hKn:K.Nodup:=hB.nodup_iff.1 hb.nodup;have htK:∀ {d},d∈K->aE d∈K:=fun {d} h=>(hK _).2 (by rw[bA];exact (hK _).1 h);have hbK:∀ {d},d∈K->b d∈K:=fun {d} h=>hB.mem_iff.1 (hb.next (hB.mem_iff.2 h))
 let K2:=K.flatMap fun d=>[dZ c d false,dZ c d true]
 let B2:=B.flatMap fun l=>[lift c false l,lift c true l]
 let C2:=C.flatMap fun l=>[l.map (dZ c · false),l.map (dZ c · true)]
 let S2:=S.flatMap fun e=>[2*e,2*e+1]
 have hK2:K2.Nodup:=tN hKn;have fm:∀ {M:List Int},M.Perm K->(M.flatMap fun d=>[dZ c d false,dZ c d true]).Perm K2:=fun {M} h=>h.flatMap_right _;have Yv:B2.flatten.Perm K2:=(vX B).trans (fm hB);have acD:C2.flatten.Perm K2:=(tO C).trans (fm N4);have fh:bC (M9 b c) B2:=by
  refine⟨fun l hl=>?_,Yv.nodup_iff.2 hK2⟩;obtain⟨m,hm,hl⟩:=Qh.1 hl;rcases Qa.1 hl with q | q
  ·rw[q];exact Aa (hb.ring m hm) (pA m hm) _
  rw[Qc.1 q];exact Aa (hb.ring m hm) (pA m hm) _
 have amt:S2.Nodup:=cP (p:=⟨[],S⟩) hSn;have iz:∀ d s,dZ c d s / 2∈S2↔d∈K:=fun d s=>by
  have h1:dZ c d s / 2∈S2↔dZ c d s / 2 / 2∈S:=aw (p:=⟨[],S⟩);rw[h1,hK,Nz];have:(2*(d / 2)+(if (s ^^ (decide (d % 2=1)&&c (d / 2)))=true then 1 else 0)) / 2=d / 2:=by split <;> omega
  rw[this]
 have q9:∀ d s,d∈K->tw S2 (dZ c d s)=dZ c (aE d) (s ^^ c (d / 2)):=fun d s hd=>by
  rw[W0 amt,if_pos ((iz d s).2 hd),Ph]
 have hnx:∀ d s,d∈K->M9 b c (tw S2 (dZ c d s))=dZ c (b (aE d)) s:=fun d s hd=>by
  rw[q9 d s hd,vO,bA];cases s <;> cases c (d / 2) <;> rfl
 have hsh:∀ (s:Bool) {z:Int} {l:List Int} {x:Int},(∀ y∈x :: l,y∈K)->Trail (fun x=>b (aE x)) x l z->Trail (fun x=>M9 b c (tw S2 x)) (dZ c x s) (l.map (dZ c · s)) (dZ c z s):=by
  intro s z l
  induction l with
  | nil =>
   intro x hx h;have h:b (aE x)=z:=h;show M9 b c (tw S2 (dZ c x s))=_;rw[hnx x s (hx x (by simp)),h]
  | cons d l ih =>
   intro x hx h;exact⟨by show M9 b c (tw S2 (dZ c x s))=_;rw[hnx x s (hx x (by simp))];exact congrArg (dZ c · s) h.1,ih (fun y hy=>hx y (Qb _ hy)) h.2⟩
 have UZ:bC (fun x=>M9 b c (tw S2 x)) C2:=by
  refine⟨fun l hl=>?_,acD.nodup_iff.2 hK2⟩;obtain⟨m,hm,hl⟩:=Qh.1 hl;have hr:=hC.ring m hm;have hmK:∀ y∈m,y∈K:=fun y hy=>N4.mem_iff.1 (List.mem_flatten.2 ⟨m,hm,hy⟩);have:∀ s,Ring (fun x=>M9 b c (tw S2 x)) (m.map (dZ c · s)):=fun s=>by
   cases m with
   | nil=>exact hr.elim
   | cons x m=>exact hsh s hmK hr
  rcases Qa.1 hl with q | q
  ·rw[q];exact this _
  rw[Qc.1 q];exact this _
 have amc:∀ e∈S2,2*e∈K2/\2*e+1∈K2:=fun e he=>by
  obtain⟨f,hf,he⟩:=Qh.1 he;have m0:(2*f)∈K:=(hK _).2 (by rwa[show 2*f / 2=f by omega]);have m1:(2*f+1)∈K:=(hK _).2 (by rwa[show (2*f+1) / 2=f by omega]);have e0:∀ s,dZ c (2*f) s=4*f+(if s=true then 2 else 0):=fun s=>by
   unfold dZ;rw[show 2*f / 2=f by omega,show 2*f % 2=0 by omega];cases s <;> simp
  have e1:∀ s,dZ c (2*f+1) s=4*f+(if (s ^^ c f)=true then 2 else 0)+1:=fun s=>by
   unfold dZ;rw[show (2*f+1) / 2=f by omega,show (2*f+1) % 2=1 by omega];cases s <;> simp
  rcases Qa.1 he with q | q
  ·refine⟨km.2 ⟨_,m0,false,?_⟩,km.2 ⟨_,m1,c f,?_⟩⟩
   ·rw[e0,q];simp;omega
   rw[e1,q];simp;omega
  have q:=Qc.1 q;refine⟨km.2 ⟨_,m0,true,?_⟩,km.2 ⟨_,m1,!c f,?_⟩⟩
  ·rw[e0,q];simp;omega
  rw[e1,q];cases c f <;> simp <;> omega
 have hle:=CO fh Yv amc UZ acD;have l1:B2.length=2*B.length:=B7 _ _ B;have l2:C2.length=2*C.length:=B7 _ _ C;have l3:S2.length=2*S.length:=cw ⟨[],S⟩;rw[l1,l2,l3] at hle
 let R:=nU (Same B2) S2
 have hR:qw R:=nU.eqv (Same.eqv fh.nodup) S2;have hR2:2<=dK R K2:=by show 2<=dK (nU (Same B2) S2) K2;omega
 have rb:∀ d∈K,∀ s,R (dZ c d s) (dZ c (b d) (s ^^ c (d / 2))):=fun d hd s=>by
  rw[<-vO];exact nU.base (Same.step fh (Yv.mem_iff.2 (km.2 ⟨d,hd,s,rfl⟩))) S2
 have rt:∀ d∈K,∀ s,R (dZ c d s) (dZ c (aE d) (s ^^ c (d / 2))):=fun d hd s=>by
  rw[<-q9 d s hd];exact Hc (Same.eqv fh.nodup) S2 _
 let Q:Int->Int->Prop:=fun x y=>∃ t:Bool,∀ s:Bool,R (dZ c x s) (dZ c y (s ^^ t))
 have hQ:qw Q:=⟨fun x=>⟨false,fun s=>by rw[Qf];exact hR.refl _⟩,
  fun {x y} ⟨t,h⟩=>⟨t,fun s=>by
   have:=h (s ^^ t);rw[Qo,QF,Qf] at this;exact hR.symm this⟩,
  fun {x y z} ⟨t,h⟩ ⟨u,k⟩=>⟨t ^^ u,fun s=>by
   have:=k (s ^^ t);rw[Qo] at this;exact hR.trans (h s) this⟩⟩
 have cU:=lQ Q hQ (fun x hx=>⟨_,rb x hx⟩) (fun x hx=>⟨_,rt x hx⟩);have gM:∀ d∈K,¬ R (dZ c d false) (dZ c d true):=fun d hd hq=>by
  have uE:∀ x∈K2,R x (dZ c d false):=fun x hx=>by
   obtain⟨e,he,s,rfl⟩:=km.1 hx;obtain⟨t,ht⟩:=cU e he d hd;have:=ht s;cases h:(s ^^ t)
   ·rwa[h] at this
   rw[h] at this;exact hR.trans this (hR.symm hq)
  have:=H8 hR (K:=K2) fun x hx y hy=>hR.trans (uE x hx) (hR.symm (uE y hy));omega
 by_cases hK0:K=[]
 ·exact⟨fun _=>false,fun d hd=>absurd (hK0 ▸ hd) Ql,fun d hd=>absurd (hK0 ▸ hd) Ql⟩
 obtain⟨o,ho⟩:=Qk K hK0;have Wu:∀ d∈K,∀ t u:Bool,(∀ s:Bool,R (dZ c o s) (dZ c d (s ^^ t)))->R (dZ c o false) (dZ c d u)->t=u:=fun d hd t u h k=>by
  have h0:=h false;rw[Qd] at h0;have h1:=hR.trans (hR.symm h0) k;cases t <;> cases u
  ·rfl
  ·exact absurd h1 (gM d hd)
  ·exact absurd (hR.symm h1) (gM d hd)
  rfl
 have hex:∀ d,∃ t:Bool,d∈K->∀ s:Bool,R (dZ c o s) (dZ c d (s ^^ t)):=fun d=>by
  by_cases hd:d∈K
  ·obtain⟨t,ht⟩:=cU o ho d hd
   exact⟨t,fun _=>ht⟩
  exact⟨false,fun q=>absurd q hd⟩
 let χ:Int->Bool:=fun d=>Qz (hex d)
 have ns:∀ d∈K,∀ s:Bool,R (dZ c o s) (dZ c d (s ^^ χ d)):=fun d hd=>Qn (hex d) hd;have e1:∀ d∈K,χ (aE d)=(χ d ^^ c (d / 2)):=fun d hd=>by
  have h1:=ns d hd false;rw[Qd] at h1;exact Wu _ (htK hd) _ _ (ns _ (htK hd)) (hR.trans h1 (rt d hd _))
 have e2:∀ d∈K,χ (b d)=(χ d ^^ c (d / 2)):=fun d hd=>by
  have h1:=ns d hd false;rw[Qd] at h1;exact Wu _ (hbK hd) _ _ (ns _ (hbK hd)) (hR.trans h1 (rb d hd _))
 refine⟨χ,fun d hd=>?_,e1⟩;rw[e2 _ (htK hd),e1 d hd,bA];cases χ d <;> cases c (d / 2) <;> rfl
structure Mj (g:Gr) (p:Pt) (aa:List (List Int)):Prop where
 pe:p.err g=0
 js:aT g p aa
 full:∀ v∈p.v,∃ d∈p.ag,g.tail d=v
 ou:∀ u∈p.v,∀ v∈p.v,bP g p (-1) u v
 Pn:∃ F,bC (ay g aa) F/\F.flatten.Perm p.ag/\p.v.length+F.length=2+p.e.length
theorem cL.ak3 {g:Gr} {p:Pt} {aa F:List (List Int)} (h:cL g p aa F):Mj g p aa:=⟨h.pe,h.js,h.full,h.ou,F,h.rings,h.all,h.pZ⟩
def zc (aa:List (List Int)) (c:Int->Bool) (v:Int):Bool:=par (fun d=>c (d / 2)) (aI aa v)
theorem mT (aa:List (List Int)) (c k:Int->Bool) (v:Int):zc aa (fun e=>c e ^^ k e) v=(zc aa c v ^^ zc aa k v):=sw _ _ _
structure lL (g:Gr) (p:Pt) (aa:List (List Int)) (c χ:Int->Bool):Prop where
 next:∀ d∈p.ag,χ (ay g aa d)=χ d
 aE:∀ d∈p.ag,χ (aE d)=(χ d ^^ c (d / 2))
variable {g : Gr} {p : Pt} {aa : List (List Int)}
theorem PU (hp:aH g p) (ht:aT g p aa) (hf:∀ v∈p.v,∃ d∈p.ag,g.tail d=v):busy aa p.v=p.v:=by
 refine Qr.2 fun v hv=>?_;obtain⟨d,hd,e⟩:=hf v hv;have:=(ht.mem v (hp.vr v hv).1 (hp.vr v hv).2 d).2 ⟨hd,e⟩;cases q:aI aa v with
 | nil=>rw[q] at this;simp at this
 | cons _ _=>rfl
theorem at_ring (hp:aH g p) (ht:aT g p aa) {d:Int} (hd:d∈p.ag):∃ l,Trail (before g aa) d l d/\(d :: l).Perm (aI aa (g.tail d)):=by
 obtain⟨v1,v2⟩:=hp.vr _ (hp.aQ hd).1;have hm:=(ht.mem _ v1 v2 d).2 ⟨hd,rfl⟩;have hr:=jl (ht.nodup (g.tail d)) (fun e=>by rw[e] at hm;simp at hm);have cH:Ring (before g aa) (aI aa (g.tail d)).reverse:=hr.congr fun x hx=>by
  have:=((ht.mem _ v1 v2 x).1 (QA.1 hx)).2;unfold before;rw[this]
 obtain⟨l,h1,h2⟩:=cH.from (QA.2 hm);exact⟨l,h1,h2.trans (Qu _)⟩
theorem at_mem (hp:aH g p) (ht:aT g p aa) {v:Int} (hv:v∈p.v) {x:Int}:x∈aI aa v↔x∈p.ag/\g.tail x=v:=ht.mem _ (hp.vr v hv).1 (hp.vr v hv).2 x
theorem U7 (hp:aH g p) (ht:aT g p aa) (hj:∀ u∈p.v,∀ v∈p.v,bP g p (-1) u v) {Q:Int->Int->Prop} (hQ:qw Q) (h1:∀ d∈p.ag,Q d (before g aa d)) (h2:∀ d∈p.ag,Q d (Plain.aE d)):∀ x∈p.ag,∀ y∈p.ag,Q x y:=by
 have dN:∀ x∈p.ag,∀ y∈p.ag,g.tail x=g.tail y->Q x y:=fun x hx y hy e=>by
  obtain⟨l,hl,AJ⟩:=at_ring hp ht hx;have XE:=(hp.aQ hx).1;exact s9 hQ hl (fun w hw=>h1 w ((at_mem hp ht XE).1 (AJ.mem_iff.1 hw)).1) y (AJ.mem_iff.2 ((at_mem hp ht XE).2 ⟨hy,e.symm⟩))
 intro x hx y hy;have key:∀ u,bP g p (-1) (g.tail x) u->∀ y∈p.ag,g.tail y=u->Q x y:=by
  intro u hu
  induction hu with
  | here=>exact fun y hy e=>dN x hx y hy e.symm
  | step _ hn _ ih =>
   rename_i u w _;obtain⟨e,he,hn⟩:=hn;intro y hy hyw;have m0:2*e∈p.ag:=aw.2 (by rwa[show 2*e / 2=e by omega]);obtain⟨t1,t2⟩:=dV g e;have hte:g.tail (Plain.aE (2*e))=(g.at e).2:=by rw[aA,t2]
   rcases hn with q | q
   ·have a1:=ih (2*e) m0 (by rw[t1,q])
    exact hQ.trans (hQ.trans a1 (h2 _ m0)) (dN _ (bu m0) y hy (by rw[hte,q,hyw]))
   have a1:=ih _ (bu m0) (by rw[hte,q]);exact hQ.trans (hQ.trans a1 (hQ.symm (h2 _ m0))) (dN _ m0 y hy (by rw[t1,q,hyw]))
 exact key _ (hj _ (hp.aQ hx).1 _ (hp.aQ hy).1) y hy rfl
theorem RE (hp:aH g p) (ht:aT g p aa) (hf:∀ v∈p.v,∃ d∈p.ag,g.tail d=v):bC (before g aa) ((p.v).map fun v=>(aI aa v).reverse)/\((p.v).map fun v=>(aI aa v).reverse).flatten.Perm p.ag:=by
 obtain⟨hb,fT⟩:=ke ht hp.en hp.vn hp.vr;rw[PU hp ht hf] at hb fT;have cU:leaving g p p.v=p.ag:=Qr.2 fun d hd=>by simpa using (hp.aQ hd).1
 rw[cU] at fT;exact⟨hb,fT⟩
theorem Mj.Ww (h:Mj g p aa) {c:Int->Bool} (pA:∀ v∈p.v,zc aa c v=false):∃ χ,lL g p aa c χ:=by
 have hp:=Pt.aF h.pe;obtain⟨F,hF,hFK,YS⟩:=h.Pn;obtain⟨hb,fT⟩:=RE hp h.js h.full;obtain⟨χ,h1,h2⟩:=UR (c:=c) hb fT hp.en (fun d=>aw) hF hFK (by rw[QC];exact YS)
  (fun Q hQ h1 h2=>U7 hp h.js h.ou hQ h1 h2)
  (fun l hl=>by
   obtain⟨v,hv,rfl⟩:=List.mem_map.1 hl;rw[Et (Qu _)];exact pA v hv)
 exact⟨χ,h1,h2⟩
structure jC (g:Gr) (p:Pt) (aa:List (List Int)):Prop where
 pe:p.err g=0
 js:aT g p aa
 full:∀ v∈p.v,∃ d∈p.ag,g.tail d=v
 ou:∀ u∈p.v,∀ v∈p.v,bP g p (-1) u v
 akl:∀ c:Int->Bool,(∀ v∈p.v,zc aa c v=false)->∃ χ,lL g p aa c χ
theorem jC.Ww (h:jC g p aa) {c:Int->Bool} (pA:∀ v∈p.v,zc aa c v=false):∃ χ,lL g p aa c χ:=h.akl c pA
theorem Mj.EE (h:Mj g p aa):jC g p aa:=⟨h.pe,h.js,h.full,h.ou,fun _ pA=>h.Ww pA⟩
theorem cL.EE {F:List (List Int)} (h:cL g p aa F):jC g p aa:=h.ak3.EE
section
variable {c k χ ψ : Int -> Bool}
theorem lL.before (h:lL g p aa c χ) {d:Int} (hd:d∈p.ag):χ (before g aa d)=(χ d ^^ c (d / 2)):=by
 have:=h.next _ (bu hd);unfold ay at this;rw[aS] at this;rw[this,h.aE d hd]
theorem lL.xor (h:lL g p aa c χ) (h2:lL g p aa k ψ):lL g p aa (fun e=>c e ^^ k e) (fun d=>χ d ^^ ψ d) :=
 ⟨fun d hd=>by rw[h.next d hd,h2.next d hd],fun d hd=>by rw[h.aE d hd,h2.aE d hd];cases χ d <;> cases ψ d <;> cases c (d / 2) <;> cases k (d / 2) <;> rfl⟩
theorem lL.congr (h:lL g p aa c χ) (e:∀ x∈p.e,c x=k x):lL g p aa k χ:=⟨h.next,fun d hd=>by rw[h.aE d hd,e _ (aw.1 hd)]⟩
theorem lL.xV (h:lL g p aa c χ) {z y:Int} {B:List Int}:∀ {A:List Int} {x:Int},Trail (Plain.before g aa) x (A++y :: B) z->(∀ d∈x :: A,d∈p.ag)->χ y=(χ x ^^ par (fun d=>c (d / 2)) (x :: A))
 | [],x,ht,hd=>by
  have e:Plain.before g aa x=y:=ht.1;rw[<-e,h.before (hd x (by simp))];simp[par]
 | a :: A,x,ht,hd=>by
  have e:Plain.before g aa x=a:=ht.1;have ih:=lL.xV h (A:=A) (x:=a) ht.2 (fun d hm=>hd d (Qb _ hm));have hb:=h.before (hd x (by simp));rw[e] at hb;rw[ih,hb];simp only[par];rw[Qo]
theorem at_two (hp:aH g p) (ht:aT g p aa) {d e:Int} (hd:d∈p.ag) (he:e∈p.ag) (hv:g.tail d=g.tail e) (bh:d≠e) :
  ∃ A B,Trail (Plain.before g aa) d (A++e :: B) d/\(d :: A++e :: B).Nodup/\∀ u,u∈d :: A++e :: B↔u∈p.ag/\g.tail u=g.tail d:=by
 obtain⟨l,hl,AJ⟩:=at_ring hp ht hd;have hvd:=(hp.aQ hd).1;have hm:e∈d :: l:=AJ.mem_iff.2 ((at_mem hp ht hvd).2 ⟨he,hv.symm⟩);obtain⟨A,B,rfl⟩:=Qj ((Qa.1 hm).resolve_left fun q=>bh q.symm);exact⟨A,B,hl,AJ.nodup_iff.2 (ht.nodup _),fun u=>by rw[<-at_mem hp ht hvd];exact AJ.mem_iff⟩
theorem lL.same (h:lL g p aa c χ) (hp:aH g p) (ht:aT g p aa) {d e:Int} (hd:d∈p.ag) (he:e∈p.ag) (hv:g.tail d=g.tail e)
  (hc:∀ u∈p.ag,g.tail u=g.tail d->c (u / 2)=false):χ d=χ e:=by
 by_cases bh:d=e
 ·rw[bh]
 obtain⟨A,B,h1,h2,h3⟩:=at_two hp ht hd he hv bh;have gB:∀ u∈d :: A,u∈p.ag/\g.tail u=g.tail d:=fun u hu=>(h3 u).1 (by rw[Qi];exact Qv hu);rw[h.xV h1 (fun u hu=>(gB u hu).1),kI (fun u hu=>hc u (gB u hu).1 (gB u hu).2),Qf]
theorem lL.two (h:lL g p aa c χ) (hp:aH g p) (ht:aT g p aa) {d e:Int} (hd:d∈p.ag) (he:e∈p.ag) (hv:g.tail d=g.tail e) (bh:d≠e)
  (hc:∀ u∈p.ag,g.tail u=g.tail d->c (u / 2)=(decide (u=d) ^^ decide (u=e))):χ e=!χ d:=by
 obtain⟨A,B,h1,h2,h3⟩:=at_two hp ht hd he hv bh;have gB:∀ u∈d :: A,u∈p.ag/\g.tail u=g.tail d:=fun u hu=>(h3 u).1 (by rw[Qi];exact Qv hu);have hn:=Qe.1 h2;have heA:e ∉ d :: A:=fun q=>hn.2.2 e q e (by simp) rfl;rw[h.xV h1 (fun u hu=>(gB u hu).1),j' (x:=d) hn.1 (by simp) (by rw[hc d hd rfl];simp[bh]) (fun u hu XP=>by
  rw[hc u (gB u hu).1 (gB u hu).2];have:u≠e:=fun q=>heA (q ▸ hu);simp[XP,this])]
 cases χ d <;> rfl
theorem lL.alike (h:lL g p aa c χ) (h2:lL g p aa k ψ) (hp:aH g p) (ht:aT g p aa) {d e:Int} (hd:d∈p.ag) (he:e∈p.ag) (hv:g.tail d=g.tail e)
  (hc:∀ u∈p.ag,g.tail u=g.tail d->c (u / 2)=k (u / 2)):(χ d ^^ ψ d)=(χ e ^^ ψ e) :=
 (h.xor h2).same hp ht hd he hv fun u hu hv=>by rw[hc u hu hv];simp
theorem lL.three (h:lL g p aa c χ) (h2:lL g p aa k ψ) (hp:aH g p) (ht:aT g p aa) {o t q:Int} (ho:o∈p.ag) (Al:t∈p.ag) (hq:q∈p.ag)
  (hvt:g.tail t=g.tail o) (hvq:g.tail q=g.tail o) (hot:o≠t) (hoq:o≠q) (htq:t≠q)
  (hc:∀ u∈p.ag,g.tail u=g.tail o->c (u / 2)=(decide (u=o) ^^ decide (u=t)))
  (hk:∀ u∈p.ag,g.tail u=g.tail o->k (u / 2)=(decide (u=o) ^^ decide (u=q))):((χ q ^^ χ o) ^^ (ψ t ^^ ψ o))=true:=by
 obtain⟨A,B,h1,hn,h3⟩:=at_two hp ht ho Al hvt.symm hot;have gL:=Qe.1 hn;have htA:t ∉ o :: A:=fun r=>gL.2.2 t r t (by simp) rfl;have hqm:q∈o :: A++t :: B:=(h3 q).2 ⟨hq,hvq⟩;have sh:∀ u∈o :: A,u∈p.ag/\g.tail u=g.tail o:=fun u hu=>(h3 u).1 (by rw[Qi];exact Qv hu);rcases Qi.1 hqm with hqA | hqB
 ·have hqA:q∈A:=(Qa.1 hqA).resolve_left fun r=>hoq r.symm
  obtain⟨A1,A2,rfl⟩:=Qj hqA;have hnA:=gL.1;have atS:q ∉ o :: A1:=fun r=>by
   have:(o :: A1++q :: A2).Nodup:=hnA;exact (Qe.1 this).2.2 q r q (by simp) rfl
  have I6:∀ u∈o :: A1,u∈o :: (A1++q :: A2):=fun u hu=>by
   rcases Qa.1 hu with r | r
   ·rw[r];simp
   simp[r]
  have e1:χ q=!χ o:=by
   have Zh:Trail (Plain.before g aa) o (A1++q :: (A2++t :: B)) o:=by simpa using h1
   rw[h.xV Zh (fun u hu=>(sh u (I6 u hu)).1)];have fs:(o :: A1).Nodup:=(Qe.1 (show (o :: A1++q :: A2).Nodup from hnA)).1;rw[j' (x:=o) fs (by simp) (by rw[hc o ho rfl];simp[hot]) (fun u hu huo=>by
    rw[hc u (sh u (I6 u hu)).1 (sh u (I6 u hu)).2];have:u≠t:=fun r=>htA (r ▸ I6 u hu);simp[huo,this])]
   cases χ o <;> rfl
  have e2:ψ t=ψ o:=by
   rw[h2.xV h1 (fun u hu=>(sh u hu).1)];have:par (fun d=>k (d / 2)) (o :: (A1++q :: A2))=par (fun u=>decide (u=o) ^^ decide (u=q)) (o :: (A1++q :: A2)):=pn fun u hu=>hk u (sh u hu).1 (sh u hu).2;rw[this,sw,j' (x:=o) hnA (by simp) (by simp) (fun u _ r=>by simp[r]),j' (x:=q) hnA (by simp) (by simp) (fun u _ r=>by simp[r])];cases ψ o <;> rfl
  rw[e1,e2];cases χ o <;> cases ψ o <;> rfl
 have hqB:q∈B:=(Qa.1 hqB).resolve_left fun r=>htq r.symm;obtain⟨B1,B2,rfl⟩:=Qj hqB;have hqA:q ∉ o :: A:=fun r=>gL.2.2 q r q (by simp) rfl;have e1:χ q=χ o:=by
  have Zh:Trail (Plain.before g aa) o ((A++t :: B1)++q :: B2) o:=by simpa using h1
  have gB:∀ u∈o :: (A++t :: B1),u∈o :: A++t :: (B1++q :: B2):=fun u hu=>by
   simp only[List.cons_append,Qa,Qi] at hu ⊢;rcases hu with r | r | r | r
   ·exact Qv r
   ·exact QD (Qv r)
   ·exact QD (QD (Qv r))
   exact QD (QD (QD (Qv r)))
  rw[h.xV Zh (fun u hu=>((h3 u).1 (gB u hu)).1)];have:par (fun d=>c (d / 2)) (o :: (A++t :: B1))=par (fun u=>decide (u=o) ^^ decide (u=t)) (o :: (A++t :: B1)):=pn fun u hu=>hc u ((h3 u).1 (gB u hu)).1 ((h3 u).1 (gB u hu)).2;have fs:(o :: (A++t :: B1)).Nodup:=by
   have:(o :: A++t :: (B1++q :: B2))=(o :: (A++t :: B1))++q :: B2:=by simp
   rw[this] at hn;exact (Qe.1 hn).1
  rw[this,sw,j' (x:=o) fs (by simp) (by simp) (fun u _ r=>by simp[r]),j' (x:=t) fs (by simp) (by simp) (fun u _ r=>by simp[r])];cases χ o <;> rfl
 have e2:ψ t=!ψ o:=by
  rw[h2.xV h1 (fun u hu=>(sh u hu).1)];rw[j' (x:=o) gL.1 (by simp) (by rw[hk o ho rfl];simp[hoq]) (fun u hu huo=>by
   rw[hk u (sh u hu).1 (sh u hu).2];have:u≠q:=fun r=>hqA (r ▸ hu);simp[huo,this])]
  cases ψ o <;> rfl
 rw[e1,e2];cases χ o <;> cases ψ o <;> rfl
end
def hZ (l:List Int) (e:Int):Bool:=par (fun d=>decide (d / 2=e)) l
theorem ff (l m:List Int) (e:Int):hZ (l++m) e=(hZ l e ^^ hZ m e):=wh _ _ _
theorem DI {f:Int->Bool} {a b:Int} (_hab:a≠b) {l:List Int} (hn:l.Nodup) (hf:∀ x∈l,f x=(decide (x=a) ^^ decide (x=b))):par f l=(decide (a∈l) ^^ decide (b∈l)):=by
 have:par f l=par (fun x=>decide (x=a) ^^ decide (x=b)) l:=pn hf;rw[this,sw];have one:∀ a:Int,par (fun x=>decide (x=a)) l=decide (a∈l):=fun a=>by
  by_cases h:a∈l
  ·rw[j' hn h (by simp) (fun d _ q=>by simp[q])];simp[h]
  rw[kI (fun d hd=>by simp;exact fun q=>h (q ▸ hd))];simp[h]
 rw[one,one]
theorem E5 {x d:Int}:decide (x / 2=d / 2)=(decide (x=d) ^^ decide (x=aE d)):=by
 have bh:=oP d;by_cases h:x / 2=d / 2
 ·rcases kJ h with q | q
  ·subst q;simp[Ne.symm bh]
  subst q;simp[bh,bA]
 have h1:x≠d:=fun q=>h (by rw[q]);have h2:x≠aE d:=fun q=>h (by rw[q,bA]);simp[h,h1,h2]
theorem fp {l:List Int} (hn:l.Nodup) (d:Int):hZ l (d / 2)=(decide (d∈l) ^^ decide (aE d∈l)) :=
 DI (Ne.symm (oP d)) hn fun _ _=>E5
theorem BB {l:List Int} {e:Int} (h:∀ d∈l,d / 2≠e):hZ l e=false:=kI fun d hd=>by simp[h d hd]
theorem x' (hp:aH g p) (ht:aT g p aa) {d v:Int} (hd:d∈p.ag) (hv:v∈p.v):zc aa (fun e=>decide (e=d / 2)) v=(decide (g.tail d=v) ^^ decide (g.head d=v)):=by
 have h:=DI (f:=fun x=>decide (x / 2=d / 2)) (Ne.symm (oP d)) (ht.nodup v) (fun _ _=>E5);show par (fun x=>decide (x / 2=d / 2)) (aI aa v)=_;rw[h];have e1:d∈aI aa v↔g.tail d=v:=by rw[at_mem hp ht hv];simp[hd]
 have e2:aE d∈aI aa v↔g.head d=v:=by rw[at_mem hp ht hv,aA];simp[bu hd]
 simp[e1,e2]
theorem fH (hp:aH g p) (ht:aT g p aa) {v z:Int} (hv:v∈p.v):∀ {l:List Int} {a:Int},eR g a l z->(∀ d∈l,d∈p.ag)->zc aa (hZ l) v=(decide (a=v) ^^ decide (z=v))
 | [],a,h,_=>by
  have e:a=z:=h;have:zc aa (hZ []) v=false:=kI fun _ _=>rfl;rw[this,e];simp
 | d :: l,a,h,hd=>by
  have ih:=fH hp ht hv h.2 (fun x hx=>hd x (Qb _ hx));have e:hZ (d :: l)=fun e=>decide (e=d / 2) ^^ hZ l e:=by
   funext e
   show (decide (d / 2=e) ^^ hZ l e)=_
   congr 1
   exact decide_eq_decide.2 ⟨fun q=>q.symm,fun q=>q.symm⟩
  rw[e,mT,x' hp ht (hd d (by simp)) hv,ih,h.1];cases decide (a=v) <;> cases decide (g.head d=v) <;> cases decide (z=v) <;> rfl
variable {g : Gr} {b q : Pt} {aa : List (List Int)}
def pU (E:List Int) (aa:List (List Int)):List (List Int):=aa.map fun l=>l.filter fun d=>decide (d / 2∈E)
theorem qZ (E:List Int) (aa:List (List Int)) (v:Int):aI (pU E aa) v=(aI aa v).filter fun d=>decide (d / 2∈E):=by
 unfold aI pU;simp only[List.getD,List.getElem?_map];cases aa[v.toNat]? <;> rfl
theorem qG (P f:Int->Bool):∀ l:List Int,par f (l.filter P)=par (fun d=>P d&&f d) l
 | []=>rfl
 | d :: l=>by
  cases e:P d with
  | true=>rw[List.filter_cons_of_pos e];simp only[par,e,qG P f l,Qs]
  | false=>rw[List.filter_cons_of_neg (by simp[e])];simp only[par,e,qG P f l,QE,Qd]
theorem jC.sub (h:jC g b aa) (hq:q.err g=0) (he:∀ e∈q.e,e∈b.e) (hf:∀ v∈q.v,∃ d∈q.ag,g.tail d=v) (hj:∀ u∈q.v,∀ v∈q.v,bP g q (-1) u v):jC g q (pU q.e aa):=by
 have hb:=Pt.aF h.pe;have hk:=Pt.aF hq;have ht:=h.js;have sub:∀ d∈q.ag,d∈b.ag:=fun d hd=>aw.2 (he _ (aw.1 hd));have cV:∀ v,0<=v->v<g.n->∀ d,d∈aI (pU q.e aa) v↔d∈q.ag/\g.tail d=v:=fun v v0 v1 d=>by
  rw[qZ,List.mem_filter,ht.mem v v0 v1,decide_eq_true_iff,<-aw];exact⟨fun r=>⟨r.2,r.1.2⟩,fun r=>⟨⟨sub d r.1,r.2⟩,r.1⟩⟩
 have uE:aT g q (pU q.e aa):=⟨by unfold pU;rw[QC];exact ht.len,fun v=>by rw[qZ];exact (ht.nodup v).filter _,cV⟩;refine⟨hq,uE,hf,hj,fun c pA=>?_⟩;obtain⟨χ,ns⟩:=h.Ww (c:=fun e=>decide (e∈q.e)&&c e) fun v hv=>by
  have e1:zc aa (fun e=>decide (e∈q.e)&&c e) v=zc (pU q.e aa) c v:=by
   unfold zc;rw[qZ,qG]
  rw[e1];by_cases r:v∈q.v
  ·exact pA v r
  unfold zc;have:aI (pU q.e aa) v=[]:=by
   cases s:aI (pU q.e aa) v with
   | nil=>rfl
   | cons d l =>
    have:=(cV v (hb.vr v hv).1 (hb.vr v hv).2 d).1 (by rw[s];simp);exact absurd (this.2 ▸ (hk.aQ this.1).1) r
  rw[this];rfl
 have jW:∀ d∈q.ag,decide (d / 2∈q.e)=true:=fun d hd=>decide_eq_true (aw.1 hd);refine⟨χ,fun d hd=>?_,fun d hd=>by rw[ns.aE d (sub d hd),jW d hd,Qs]⟩;have Al:=bu hd;have h1:=ns.before (sub _ Al);rw[ns.aE d (sub d hd),bA,jW d hd,Qs] at h1;have hm:aE d∈aI aa (g.tail (aE d)):=(at_mem hb ht (hb.aQ (sub _ Al)).1).2 ⟨sub _ Al,rfl⟩;have hn:=ht.nodup (g.tail (aE d));have h2:=FX hn (P:=fun d=>decide (d / 2∈q.e)) hm (jW _ Al);have h3:=NR hn (P:=fun d=>decide (d / 2∈q.e)) (R:=fun x y=>χ x=χ y) ⟨fun _=>rfl,fun e=>e.symm,fun e k=>e.trans k⟩ (fun y hy gM=>by
  have hyb:=((at_mem hb ht (hb.aQ (sub _ Al)).1).1 hy);have h4:=ns.before hyb.1;rw[show (decide (y / 2∈q.e))=false from gM,QE,Qf] at h4;unfold before at h4;rw[hyb.2] at h4;exact h4.symm) (po hn hm)
 rw[h2] at h3;show χ (ay g (pU q.e aa) d)=χ d;unfold ay before;rw[qZ];have h5:χ (ahead (aI aa (g.tail (aE d))) (aE d))=χ d:=by
  unfold before at h1;rw[h1];cases χ d <;> cases c (d / 2) <;> rfl
 exact h3.symm.trans h5
structure mq (g:Gr) (b:Pt) (on:Int->Bool) (S:List Int):Prop where
 qa:I3 g on S
 shut:∀ e∈S,∀ f∈b.e,Lk g on e f->f∈S
 sub:∀ e∈S,e∈b.e
structure vu (g:Gr) (b:Pt) (aa:List (List Int)) (on:Int->Bool) (S:List Int) (c:Int->Bool) (x y:Int):Prop where
 BQ:∀ e,c e=true->e∈S
 zc:∀ v∈b.v,zc aa c v=(decide (x=v) ^^ decide (y=v))
 one:∃ q∈b.ag,g.tail q=x/\q / 2∈S/\∀ u∈b.ag,g.tail u=x->c (u / 2)=decide (u=q)
 none:∀ v,on v=true->v≠x->v≠y->∀ u∈b.ag,g.tail u=v->c (u / 2)=false
structure gZ (g:Gr) (b:Pt) (aa:List (List Int)) (on:Int->Bool) (S:List Int) (m v:Int) (c:Int->Bool):Prop where
 BQ:∀ e,c e=true->e∈S
 zc:∀ u∈b.v,Plain.zc aa c u=(decide (m=u) ^^ decide (v=u))
 one:on v=true->∃ q∈b.ag,g.tail q=v/\q / 2∈S/\∀ u∈b.ag,g.tail u=v->c (u / 2)=decide (u=q)
 none:∀ w,on w=true->w≠v->∀ u∈b.ag,g.tail u=w->c (u / 2)=false
variable {g : Gr} {b : Pt} {aa : List (List Int)} {on : Int -> Bool} {S : List Int}
theorem iT {e v:Int} (he:e∈b.e) (h:cI g e v):∃ d∈b.ag,g.tail d=v/\d / 2=e:=by
 obtain⟨d,hd,e1⟩:=xI he h;have:=bk.1 hd;exact⟨d,this.1,this.2,e1⟩
theorem gZ.start {m:Int} (hm:on m=false):gZ g b aa on S m m (fun _=>false) :=
 ⟨fun e h=>(by cases h),fun u hu=>by rw[QF];exact kI fun _ _=>rfl,fun h=>(by rw[hm] at h;cases h),fun _ _ _ _ _ _=>rfl⟩
theorem gZ.step (hp:aH g b) (ht:aT g b aa) {m d:Int} {c:Int->Bool} (h:gZ g b aa on S m (g.tail d) c) (hd:d∈b.ag) (hS:d / 2∈S) (hu:on (g.tail d)=false) (bh:g.tail d≠g.head d) :
  gZ g b aa on S m (g.head d) (fun e=>c e ^^ decide (e=d / 2)):=by
 have yN:∀ u∈b.ag,u / 2=d / 2->u=d\/u=aE d:=fun u _ e=>kJ e;refine⟨fun e he=>?_,fun u hu=>?_,fun ho=>⟨aE d,bu hd,by rw[aA],by rw[bA];exact hS,fun u XP gI=>?_⟩,fun w hw B8 u XP huw=>?_⟩
 ·cases q:c e with
  | true=>exact h.BQ e q
  | false =>
   rw[q,Qd] at he;rw[of_decide_eq_true he];exact hS
 ·rw[mT,h.zc u hu,x' hp ht hd hu]
  cases decide (m=u) <;> cases decide (g.tail d=u) <;> cases decide (g.head d=u) <;> rfl
 ·have h0:=h.none _ ho (Ne.symm bh) u XP gI
  rw[h0,Qd];refine decide_eq_decide.2 ⟨fun e=>?_,fun e=>by rw[e,bA]⟩;rcases yN u XP e with q | q
  ·rw[q] at gI;exact absurd gI bh
  exact q
 have Xr:w≠g.tail d:=fun e=>by rw[e,hu] at hw;cases hw
 have h0:=h.none w hw Xr u XP huw;rw[h0,Qd];refine decide_eq_false fun e=>?_;rcases yN u XP e with q | q
 ·rw[q] at huw;exact Xr huw.symm
 rw[q,aA] at huw;exact B8 huw.symm
theorem uu (hl:∀ e∈b.e,(g.at e).1≠(g.at e).2) {d:Int} (hd:d∈b.ag):g.tail d≠g.head d:=by
 have h:=hl _ (aw.1 hd);unfold Gr.tail Gr.head;split
 ·exact h
 exact Ne.symm h
theorem mq.ZC (hp:aH g b) (ht:aT g b aa) (hl:∀ e∈b.e,(g.at e).1≠(g.at e).2) (hS:mq g b on S) :
  ∃ cc:Int->Int->Bool,∀ x∈br g on S,∀ y∈br g on S,x≠y->vu g b aa on S (fun e=>cc x e ^^ cc y e) x y:=by
 by_cases hm:∃ e0∈S,∃ m,cI g e0 m/\on m=false
 ·obtain⟨e0,mn,m,Sg,mh⟩:=hm
  let Good:Int->Prop:=fun e=>∀ v,cI g e v->on v=false->∃ c,gZ g b aa on S m v c
  have along:∀ e∈S,∀ w,cI g e w->on w=false->(∃ c,gZ g b aa on S m w c)->∀ v,cI g e v->v≠w->∃ c,gZ g b aa on S m v c:=by
   rintro e he w hw hwo ⟨c,hc⟩ v hv hvw;obtain⟨d,hd,hdw,rfl⟩:=iT (hS.sub e he) hw;have hhv:v=g.head d:=(fM hv).resolve_left fun q=>hvw (q.trans hdw);rw[<-hdw] at hc hwo;have:=hc.step hp ht hd he hwo (uu hl hd);rw[<-hhv] at this;exact⟨_,this⟩
  have g0:Good e0:=fun v hv ho=>by
   by_cases q:v=m
   ·subst q;exact⟨_,gZ.start ho⟩
   exact along e0 mn m Sg mh ⟨_,gZ.start mh⟩ v hv q
  have gl:∀ e∈S,∀ f∈S,Lk g on e f->Good e->Good f:=fun e he f hf ⟨w,hw,h1,h2⟩ hg v hv ho=>by
   have hc:=hg w h1 hw;by_cases q:v=w
   ·subst q;exact hc
   exact along f hf w h2 hw hc v hv q
  have ajP:∀ f∈S,Good f:=fun f hf=>by
   have:=hS.qa (fun e f=>Good e↔Good f) ⟨fun _=>QG,fun h=>h.symm,fun h k=>h.trans k⟩ (fun e he f hf hk=>⟨gl e he f hf hk,gl f hf e he (by obtain⟨w,a,b,c⟩:=hk;exact⟨w,a,c,b⟩)⟩) e0 mn f hf;exact this.1 g0
  have uE:∀ x,∃ c:Int->Bool,x∈br g on S->gZ g b aa on S m x c:=fun x=>by
   by_cases hx:x∈br g on S
   ·obtain⟨ho,e,he,hex⟩:=bs.1 hx
    obtain⟨d,hd,Ze,rfl⟩:=iT (hS.sub e he) hex;by_cases hu:on (g.head d)=false
    ·obtain⟨c,hc⟩:=along _ he (g.head d) (et g d).2 hu (ajP _ he _ (et g d).2 hu) x hex (by rw[<-Ze];exact uu hl hd)
     exact⟨c,fun _=>hc⟩
    -- both ends drawn: alone
    exfalso;have hu:on (g.head d)=true:=by cases q:on (g.head d);exact absurd q hu;rfl
    have mV:∀ v,cI g (d / 2) v->on v=true:=fun v hv=>by
     rcases fM hv with q | q
     ·rw[q,Ze];exact ho
     rw[q];exact hu
    have:=hS.qa (fun a c=>a=d / 2↔c=d / 2) ⟨fun _=>QG,fun h=>h.symm,fun h k=>h.trans k⟩ (fun a _ c _ ⟨w,hw,h1,h2⟩=>⟨fun q=>absurd (mV w (q ▸ h1)) (by rw[hw];simp),fun q=>absurd (mV w (q ▸ h2)) (by rw[hw];simp)⟩) (d / 2) he e0 mn;rw[this.1 rfl] at Sg;rw[mV m Sg] at mh;cases mh
   exact⟨fun _=>false,fun q=>absurd q hx⟩
  obtain⟨cc,jM⟩:∃ cc:Int->Int->Bool,∀ x,x∈br g on S->gZ g b aa on S m x (cc x):=⟨fun x=>Qz (uE x),fun x=>Qn (uE x)⟩;refine⟨cc,fun x hx y hy fW=>?_⟩;have h1:=jM x hx;have h2:=jM y hy;generalize cc x=c1 at *;generalize cc y=c2 at *;have ox:=(bs.1 hx).1;refine⟨fun e he=>?_,fun v hv=>?_,?_,fun v hv XE hvy u hu gI=>?_⟩
  ·cases q:c1 e with
   | true=>exact h1.BQ e q
   | false =>
    rw[q,Qd] at he;exact h2.BQ e he
  ·rw[mT,h1.zc v hv,h2.zc v hv]
   cases decide (m=v) <;> cases decide (x=v) <;> cases decide (y=v) <;> rfl
  ·obtain⟨q,q1,q2,q3,q4⟩:=h1.one ox
   exact⟨q,q1,q2,q3,fun u hu gI=>by rw[q4 u hu gI,h2.none x ox fW u hu gI,Qf]⟩
  rw[h1.none v hv XE u hu gI,h2.none v hv hvy u hu gI];rfl
 have jW:∀ e∈S,∀ v,cI g e v->on v=true:=fun e he v hv=>by
  cases q:on v with
  | true=>rfl
  | false=>exact absurd ⟨e,he,v,hv,q⟩ hm
 by_cases h0:S=[]
 ·refine⟨fun _ _=>false,fun x hx=>?_⟩
  rw[h0] at hx;obtain⟨_,e,he,_⟩:=bs.1 hx;simp at he
 obtain⟨e0,mn⟩:=Qk S h0;have cU:∀ f∈S,f=e0:=fun f hf=>by
  have:=hS.qa (fun a c=>a=e0↔c=e0) ⟨fun _=>QG,fun h=>h.symm,fun h k=>h.trans k⟩ (fun a ha c _ ⟨w,hw,h1,h2⟩=>by rw[jW a ha w h1] at hw;cases hw) e0 mn f hf;exact this.1 rfl
 have dm:∀ x∈br g on S,cI g e0 x:=fun x hx=>by
  obtain⟨_,e,he,h⟩:=bs.1 hx;rw[cU e he] at h;exact h
 refine⟨fun x e=>decide (x=(g.at e0).1)&&decide (e=e0),fun x hx y hy fW=>?_⟩;have hc:(fun e=>(decide (x=(g.at e0).1)&&decide (e=e0)) ^^ (decide (y=(g.at e0).1)&&decide (e=e0)))=fun e=>decide (e=e0):=by
  funext e
  rcases dm x hx with a | a <;> rcases dm y hy with c | c
  ·exact absurd (a.symm.trans c) fW
  ·rw[a];have:y≠x:=Ne.symm fW;simp[this]
  ·rw[c];simp[fW]
  exact absurd (a.symm.trans c) fW
 rw[hc];obtain⟨d,hd,Ze,rfl⟩:=iT (hS.sub e0 mn) (dm x hx);have hdy:g.head d=y:=((fM (dm y hy)).resolve_left fun q=>fW (Ze.symm.trans q.symm)).symm;refine⟨fun e he=>by rw[of_decide_eq_true he];exact mn,fun v hv=>by rw[x' hp ht hd hv,Ze,hdy],⟨d,hd,Ze,mn,fun u hu gI=>?_⟩,fun v hv XE hvy u hu gI=>?_⟩
 ·refine decide_eq_decide.2 ⟨fun e=>?_,fun e=>by rw[e]⟩
  rcases kJ e with q | q
  ·exact q
  rw[q,aA,hdy] at gI;exact absurd gI.symm fW
 refine decide_eq_false fun e=>?_;rcases kJ e with q | q
 ·rw[q,Ze] at gI;exact XE gI.symm
 rw[q,aA,hdy] at gI;exact hvy gI.symm
theorem mq.NL (hp:aH g b) (ht:aT g b aa) (hS:mq g b on S) {c χ:Int->Bool} (h:lL g b aa c χ) (h0:∀ e∈S,c e=false)
  (h1:∀ v,on v=false->(∃ e∈S,cI g e v)->∀ u∈b.ag,g.tail u=v->c (u / 2)=false):∀ d∈b.ag,d / 2∈S->∀ d'∈b.ag,d' / 2∈S->χ d=χ d':=by
 have q9:∀ d∈b.ag,d / 2∈S->χ (aE d)=χ d:=fun d hd hs=>by rw[h.aE d hd,h0 _ hs,Qf]
 have acY:∀ d∈b.ag,d / 2∈S->∀ d'∈b.ag,d' / 2=d / 2->χ d'=χ d:=fun d hd hs d' Cf e=>by
  rcases kJ e with q | q
  ·rw[q]
  rw[q];exact q9 d hd hs
 intro d hd hs d' Cf hs';have hm:∀ e∈S,2*e∈b.ag/\2*e / 2=e:=fun e he=>⟨aw.2 (by rw[show 2*e / 2=e by omega];exact hS.sub e he),by omega⟩;have pA:∀ d∈b.ag,d / 2∈S->χ d=χ (2*(d / 2)):=fun d hd hs=>by
  obtain⟨m0,m1⟩:=hm _ hs;exact acY _ m0 (by rw[m1];exact hs) d hd m1.symm
 have:=hS.qa (fun e f=>χ (2*e)=χ (2*f)) ⟨fun _=>rfl,fun h=>h.symm,fun h k=>h.trans k⟩ (fun e he f hf ⟨v,hv,e1,f1⟩=>by
  obtain⟨d1,k1,k2,rfl⟩:=iT (hS.sub e he) e1;obtain⟨d2,k3,k4,rfl⟩:=iT (hS.sub f hf) f1;rw[<-pA d1 k1 he,<-pA d2 k3 hf];exact h.same hp ht k1 k3 (k2.trans k4.symm) fun u hu Dd=>h1 v hv ⟨_,he,e1⟩ u hu (Dd.trans k2)) (d / 2) hs (d' / 2) hs'
 rw[pA d hd hs,pA d' Cf hs',this]
end Go.Proofs.YtbkjljffnkdcjaaGreat.Plain
