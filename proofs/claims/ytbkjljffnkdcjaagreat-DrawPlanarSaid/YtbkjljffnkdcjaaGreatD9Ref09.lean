/- law 09's small; the document's And: contracts. Conditions: a graph, parts, a plan, lists that lie in memory and read so. -/
import Derived.Test.YtbkjljffnkdcjaaGreatD9Or9
open Go.Act renaming put→Qa
open Nat renaming le_trans→Qb
open List renaming pairwise_cons→Qc,mem_cons→Qd,append_assoc→Qe,mem_cons_of_mem→Qf
open Or renaming inr→Qg
open Int renaming le_of_lt→Qh
open Go.Value renaming slice→Qi
namespace Go.Proofs.YtbkjljffnkdcjaaGreat
open Go.RowKit Go.Maps
namespace Plain
def AV (b a:List Int):List Int:=a.filter fun x=>decide (x∈b)
end Plain
namespace Plain
theorem I8 (l:List Int):∀ k,∀ i,i<k->l.getD (vi l k) 0<=l.getD i 0
 | 0,i,hi=>by omega
 | k+1,i,hi=>by
  have ih:=I8 l k;unfold vi;split
  ·rename_i h
   by_cases e:i=k
   ·rw[e];exact Int.le_refl _
   have:=ih i (by omega);omega
  rename_i h;by_cases e:i=k
  ·rw[e];omega
  exact ih i (by omega)
theorem Dt {l:List Int} (h:∀ i,i<l.length->l.getD 0 0<=l.getD i 0):∀ k,k<=l.length->vi l k=0
 | 0,_=>rfl
 | k+1,hk=>by
  have ih:=Dt h k (by omega);have:=h k (by omega);unfold vi;rw[ih,if_neg (by omega)]
theorem E2 {l:List Int} (h:∀ k,k<l.length->l.getD 0 0<=l.getD k 0):first l=l:=by
 unfold first;rw[Dt h _ (Nat.le_refl _)];simp
end Plain
namespace Plain
def bp (one:Bool):List Int->List Int->List Int
 | [],b=>if one then b else []
 | x :: a,[]=>if one then x :: a else []
 | x :: a,y :: b=>if x<y then (if one then x :: bp one a (y :: b) else bp one a (y :: b)) else if y<x then (if one then y :: bp one (x :: a) b else bp one (x :: a) b) else x :: bp one a b
termination_by a b=>a.length+b.length
theorem qm:∀ a b:List Int,bp true a b=YY a b
 | [],b=>by simp[bp,YY]
 | x :: a,[]=>by simp[bp,YY]
 | x :: a,y :: b=>by
  rw[bp,YY,qm a (y :: b),qm (x :: a) b,qm a b];by_cases h:x<y
  ·have e1:x<=y:=by omega
   have e2:¬ x=y:=by omega
   simp[h,e1,e2]
  by_cases h2:y<x
  ·have e1:¬ x<=y:=by omega
   simp[h,h2,e1]
  obtain rfl:x=y:=by omega
  simp
termination_by a b=>a.length+b.length
theorem fE {z:Int}:∀ {a b:List Int},a.Pairwise (·<·)->b.Pairwise (·<·)->(z∈bp false a b↔z∈a/\z∈b)
 | [],b,_,_=>by simp[bp]
 | x :: a,[],_,_=>by simp[bp]
 | x :: a,y :: b,ha,hb=>by
  have Bw:=Qc.1 ha;have eG:=Qc.1 hb;rw[bp];by_cases h:x<y
  ·rw[if_pos h,if_neg (by simp),fE Bw.2 hb]
   constructor
   ·exact fun q=>⟨List.mem_cons_of_mem _ q.1,q.2⟩
   rintro ⟨q1,q2⟩;refine⟨(Qd.1 q1).resolve_left fun e=>?_,q2⟩;rcases Qd.1 q2 with e2 | e2
   ·omega
   have:=eG.1 z e2;omega
  by_cases h2:y<x
  ·rw[if_neg h,if_pos h2,if_neg (by simp),fE ha eG.2]
   constructor
   ·exact fun q=>⟨q.1,Qf _ q.2⟩
   rintro ⟨q1,q2⟩;refine⟨q1,(Qd.1 q2).resolve_left fun e=>?_⟩;rcases Qd.1 q1 with e2 | e2
   ·omega
   have:=Bw.1 z e2;omega
  rw[if_neg h,if_neg h2,Qd,fE Bw.2 eG.2];have fW:x=y:=by omega
  subst fW;constructor
  ·rintro (q | q)
   ·exact⟨by rw[q];simp,by rw[q];simp⟩
   exact⟨List.mem_cons_of_mem _ q.1,Qf _ q.2⟩
  rintro ⟨q1,q2⟩;rcases Qd.1 q1 with e | e
  ·exact Or.inl e
  rcases Qd.1 q2 with e2 | e2
  ·exact Or.inl e2
  exact Qg ⟨e,e2⟩
termination_by a b=>a.length+b.length
theorem gU:∀ {a b:List Int},a.Pairwise (·<·)->b.Pairwise (·<·)->(bp false a b).Pairwise (·<·)
 | [],b,_,_=>by simp[bp]
 | x :: a,[],_,_=>by simp[bp]
 | x :: a,y :: b,ha,hb=>by
  have Bw:=Qc.1 ha;have eG:=Qc.1 hb;rw[bp];by_cases h:x<y
  ·rw[if_pos h,if_neg (by simp)];exact gU Bw.2 hb
  by_cases h2:y<x
  ·rw[if_neg h,if_pos h2,if_neg (by simp)];exact gU ha eG.2
  rw[if_neg h,if_neg h2,Qc];exact⟨fun z hz=>Bw.1 z ((fE Bw.2 eG.2).1 hz).1,gU Bw.2 eG.2⟩
termination_by a b=>a.length+b.length
theorem UH:∀ {l m:List Int},l.Pairwise (·<·)->m.Pairwise (·<·)->(∀ x,x∈l↔x∈m)->l=m:=by
 intro l m hl hm h;have hp:l.Perm m:=(List.perm_ext_iff_of_nodup (hl.imp fun h=>by omega) (hm.imp fun h=>by omega)).2 h;exact hp.eq_of_pairwise (fun a b _ _ h1 h2=>by omega) (hl.imp fun h=>Qh h) (hm.imp fun h=>Qh h)
theorem xZ {a b:List Int} (ha:a.Pairwise (·<·)) (hb:b.Pairwise (·<·)):bp false a b=AV b a:=by
 refine UH (gU ha hb) (ha.filter _) fun x=>?_;rw[fE ha hb];unfold AV;rw[List.mem_filter,decide_eq_true_iff]
end Plain
def kf (w:World) (v:Value) (l:List Int):Prop:=aJ w v l/\nX v
theorem kf.fresh {w w':World} {v:Value} {l:List Int} (h:kf w v l) (hc:ai [] w w'):kf w' v l:=⟨h.1.fresh hc,h.2⟩
theorem kf.cons {w:World} {v:Value} {x:Int} {l:List Int} (h:kf w v (x :: l)):∃ b off cap,v=.slice (some ⟨b,off,none⟩) (l.length+1) cap/\w.cell? ⟨b,off,none⟩=some (.int .i64 x)/\bn x/\l.length+1<=cap:=by
 obtain⟨⟨ao,cap,rfl,h1,h2,h3⟩,Nr,n',eS,e,h4,h5⟩:=h;simp only[Qi.injEq] at e;obtain⟨rfl,rfl,rfl⟩:=e;obtain⟨b,off,rfl,hc⟩:=h3 (by simp);exact⟨b,off,cap,rfl,by simpa using hc 0 (by simp),h1 x (by simp),by simpa using h4⟩
theorem kf.tail {w:World} {b off cap:Nat} {x:Int} {l:List Int} (h:kf w (.slice (some ⟨b,off,none⟩) (l.length+1) cap) (x :: l)):kf w (.slice (if cap=1 then some ⟨b,off,none⟩ else some ⟨b,off+1,none⟩) l.length (cap - 1)) l:=by
 obtain⟨⟨ao,eS,e,h1,h2,h3⟩,Nr,n',qC,e2,h4,h5⟩:=h;simp only[Qi.injEq] at e e2;obtain⟨rfl,-,rfl⟩:=e;obtain⟨rfl,rfl,rfl⟩:=e2;obtain⟨b',ti,e,hc⟩:=h3 (by simp);simp only[Option.some.injEq,Addr.mk.injEq] at e;obtain⟨rfl,rfl,-⟩:=e;refine⟨⟨_,_,rfl,fun y hy=>h1 y (Qf _ hy),by simp at h2;omega,fun bh=>?_⟩,_,_,_,rfl,by omega,by omega⟩;have hl:0<l.length:=List.length_pos_iff.2 bh;rw[if_neg (by omega)];refine⟨b,off+1,rfl,fun i hi=>?_⟩;have:=hc (i+1) (by simp;omega);rw[show off+1+i=off+(i+1) by omega,this];simp
namespace Plain
theorem Il (one:Bool):bp one [] []=[]:=by rw[bp];split <;> rfl
theorem lz (one:Bool) (l:List Int):bp one l []=if one then l else []:=by cases l <;> rw[bp]
theorem j8 (one:Bool) (l:List Int):bp one [] l=if one then l else []:=by rw[bp]
theorem Kh (x:Int) (l:List Int):bp true (x :: l) []=[x]++bp true l []:=by rw[lz,lz];rfl
theorem Mr (x:Int) (l:List Int):bp false (x :: l) []=bp false l []:=by rw[lz,lz];rfl
theorem MJ (x:Int) (l:List Int):bp true [] (x :: l)=[x]++bp true [] l:=by rw[j8,j8];rfl
theorem Mw (x:Int) (l:List Int):bp false [] (x :: l)=bp false [] l:=by rw[j8,j8];rfl
theorem Gw {x y:Int} (h:x<y) (l m:List Int):bp true (x :: l) (y :: m)=[x]++bp true l (y :: m):=by rw[bp,if_pos h];rfl
theorem GZ {x y:Int} (h:x<y) (l m:List Int):bp false (x :: l) (y :: m)=bp false l (y :: m):=by rw[bp,if_pos h];rfl
theorem GK {x y:Int} (h:y<x) (l m:List Int):bp true (x :: l) (y :: m)=[y]++bp true (x :: l) m:=by rw[bp,if_neg (by omega),if_pos h];rfl
theorem Hu {x y:Int} (h:y<x) (l m:List Int):bp false (x :: l) (y :: m)=bp false (x :: l) m:=by rw[bp,if_neg (by omega),if_pos h];rfl
theorem Kp (one:Bool) (x:Int) (l m:List Int):bp one (x :: l) (x :: m)=[x]++bp one l m:=by rw[bp,if_neg (by omega),if_neg (by omega)];rfl
end Plain
def yx:Value->Nat | .slice _ n _=>n | _=>0
set_option maxRecDepth 100000 in
set_option maxHeartbeats 4000000 in
theorem zC (va vb:Value) (a b:List Int) (one:Bool) (w:World) (hla:a.length<=1000000) (J8:b.length<=1000000) (ha:kf w va a) (hb:kf w vb b) :
  Calls Tryz.prog 85 #[va,vb,.int .i64 (if one then 1 else 2)] w fun e w'=>∃ ov,e=.returned ov/\ax w' w.heap.size ov (Plain.bp one a b)/\ai [] w w':=by
 obtain⟨zA,Od⟩:∃ zA:Int,(if one then 1 else 2)=zA:=⟨_,rfl⟩;have HA:=lh ha;have HB:=lh hb;obtain⟨⟨ao,ac,rfl,-⟩,-⟩:=ha;obtain⟨⟨bo,bc,rfl,-⟩,-⟩:=hb;rw[Od];have HN:=lh Od;clear Od
 go_enter Tryz.func85,Tryz.ntmps85
 go_wp2
 go_loopw [0,1,7] (fun u v ov wr=>∃ (l m M:List Int),kf w u l/\kf w v m/\ax wr w.heap.size ov M/\Hid (M++Plain.bp one l m=Plain.bp one a b)/\Hid (M.length+l.length+m.length<=a.length+b.length)/\Hid (l.length<=1000000/\m.length<=1000000)/\ai [] w wr) (fun u v _ _=>yx u+yx v)
 case atStart=>exact⟨a,b,[],HA.out,HB.out,gp _ _,lh (by simp),lh (by simp),lh ⟨hla,J8⟩,ai.refl _ _⟩
 case round =>
  obtain⟨l,m,M,hu,hv,bd,HM,HL,LK,hc⟩:=hrel;have pR:=lh bd;have A6:=lh hc;have BJ:=lh (show w.heap.size<=wr.heap.size from hc.size);obtain⟨oo,oc,rfl⟩:=bd.shape;have ql:M.length<4294967290:=by have:=HL.out;omega
  clear bd;cases l with
  | nil =>
   have HU:=lh hu;obtain⟨⟨Nr,ac',rfl,-⟩,-⟩:=hu;cases m with
   | nil =>
    obtain⟨⟨bo',bc',rfl,-⟩,-⟩:=hv;have HE:=lh (show M=Plain.bp one a b by have:=HM.out;rwa[Plain.Il,List.append_nil] at this);clear hc;go_wp2;go_ret;exact⟨_,rfl,by rw[<-HE.out];exact pR.out,A6.out⟩
   | cons y m =>
    obtain⟨bb,rh,afR,rfl,cb,IY,rR⟩:=hv.cons;have HV:=lh hv;have dz:=hc.c cb;have bl:decide (((m.length+1:Nat):Int) > 0)=true:=decide_eq_true (by omega);have bz:(((m.length+1:Nat):Int)==0)=false:=by rw[beq_eq_false_iff_ne];omega
    clear cb hv hc;cases one with
    | false =>
     obtain rfl:zA=2:=HN.out.symm;go_wp2;have aD:ai [] wr wr.drew:=(ai.refl [] wr).drew;refine au (ai [] wr) [0,1,2,3,4,5,6,7,8,9,10,11,12,13,14,15,16,17] (Way.line [0,1,2,3,4,5,6,7,8,9,10,11,12,13,14,15,16,17] .done) (by kernel_rfl) (by kernel_rfl) ?_;simp only[Way.line]
     repeat
      first
       | (refine ar rfl (by rfl) (by rfl) (fun _ _ _ h=>h) aD ?_;simp only[Qa,Z1,Z2,Z3,Z4,Z5,Z6])
       | (refine aq (v:=?_) rfl (by rfl) (by rfl) (fun _ _ _ h=>h) aD (fun w' aK=>?_) ?_;rotate_left;(focus (have fU:=aK.c dz;clear aK;go_simp;try with_reducible rfl));simp only[Qa,Z1,Z2,Z3,Z4,Z5,Z6])
       | (refine ak rfl (by rfl) (by rfl) aD ?_;simp only[Qa,Z1,Z2,Z3,Z4,Z5,Z6])
     refine aB ?_;have b8:=lh (A6.out.t aD);have gO:=lh (pR.out.aM aD (by simp));have qz:=lh (Qb BJ.out aD.size);have dz:=aD.c dz;clear aD;generalize wr.drew=w2 at *;go_wp2;have aD:ai [] w2 w2.drew:=(ai.refl [] w2).drew;refine au (ai [] w2) [0,1,2,3,4,5,6,7,8,9,10,11,12] (Way.line [0,1,2,3,4,5,6,7,8,9,10,11,12] .done) (by kernel_rfl) (by kernel_rfl) ?_;simp only[Way.line]
     repeat
      first
       | (refine ar rfl (by rfl) (by rfl) (fun _ _ _ h=>h) aD ?_;simp only[Qa,Z1,Z2,Z3,Z4,Z5,Z6])
       | (refine aq (v:=?_) rfl (by rfl) (by rfl) (fun _ _ _ h=>h) aD (fun w' aK=>?_) ?_;rotate_left;(focus (have fU:=aK.c dz;clear aK;go_simp;try with_reducible rfl));simp only[Qa,Z1,Z2,Z3,Z4,Z5,Z6])
       | (refine ak rfl (by rfl) (by rfl) aD ?_;simp only[Qa,Z1,Z2,Z3,Z4,Z5,Z6])
     refine aB ?_;have cA:=lh (b8.out.t aD);have iH:=lh (gO.out.aM aD (by simp));have Ho:=lh (Qb qz.out aD.size);have dz:=aD.c dz;clear aD;generalize w2.drew=w3 at *;go_wp2
     go_roundw
     case rel=>exact⟨[],m,_,HU.out,HV.out.tail,iH.out,lh (by rw[<-Plain.Mw y];exact HM.out),lh (by have:=HL.out;simp at this ⊢;omega),lh (by have:=LK.out;simp at this ⊢;omega),cA.out⟩
     case measure=>simp[yx]
    | true =>
     obtain rfl:zA=1:=HN.out.symm;go_wp2;have aD:ai [] wr wr.drew:=(ai.refl [] wr).drew;refine au (ai [] wr) [0,1,2,3,4,5,6,7,8,9,10,11,12,13,14,15,16,17] (Way.line [0,1,2,3,4,5,6,7,8,9,10,11,12,13,14,15,16,17] .done) (by kernel_rfl) (by kernel_rfl) ?_;simp only[Way.line]
     repeat
      first
       | (refine ar rfl (by rfl) (by rfl) (fun _ _ _ h=>h) aD ?_;simp only[Qa,Z1,Z2,Z3,Z4,Z5,Z6])
       | (refine aq (v:=?_) rfl (by rfl) (by rfl) (fun _ _ _ h=>h) aD (fun w' aK=>?_) ?_;rotate_left;(focus (have fU:=aK.c dz;clear aK;go_simp;try with_reducible rfl));simp only[Qa,Z1,Z2,Z3,Z4,Z5,Z6])
       | (refine ak rfl (by rfl) (by rfl) aD ?_;simp only[Qa,Z1,Z2,Z3,Z4,Z5,Z6])
     refine aB ?_;have b8:=lh (A6.out.t aD);have gO:=lh (pR.out.aM aD (by simp));have qz:=lh (Qb BJ.out aD.size);have dz:=aD.c dz;clear aD;generalize wr.drew=w2 at *;go_wp2;have aD:ai [] w2 w2.drew:=(ai.refl [] w2).drew;refine au (ai [] w2) [0,1,2,3,4,5,6,7,8,9,10,11,12] (Way.line [0,1,2,3,4,5,6,7,8,9,10,11,12] .done) (by kernel_rfl) (by kernel_rfl) ?_;simp only[Way.line]
     repeat
      first
       | (refine ar rfl (by rfl) (by rfl) (fun _ _ _ h=>h) aD ?_;simp only[Qa,Z1,Z2,Z3,Z4,Z5,Z6])
       | (refine aq (v:=?_) rfl (by rfl) (by rfl) (fun _ _ _ h=>h) aD (fun w' aK=>?_) ?_;rotate_left;(focus (have fU:=aK.c dz;clear aK;go_simp;try with_reducible rfl));simp only[Qa,Z1,Z2,Z3,Z4,Z5,Z6])
       | (refine ak rfl (by rfl) (by rfl) aD ?_;simp only[Qa,Z1,Z2,Z3,Z4,Z5,Z6])
     refine aB ?_;have cA:=lh (b8.out.t aD);have iH:=lh (gO.out.aM aD (by simp));have Ho:=lh (Qb qz.out aD.size);have dz:=aD.c dz;clear aD;generalize w2.drew=w3 at *
     go_wp2_with (at_builtin;refine fA rfl _ _ rfl (B:=w.heap.size) (v:=.slice oo _ oc) rfl rfl iH.out IY Ho.out ql rfl ?_;intro v6 w6 r6 c6 f6;have R6:=lh r6;have C6:=lh c6;clear r6 c6 f6)
     go_roundw
     case rel=>exact⟨[],m,_,HU.out,HV.out.tail,R6.out,lh (by rw[Qe,<-Plain.MJ];exact HM.out),lh (by have:=HL.out;simp at this ⊢;omega),lh (by have:=LK.out;simp at this ⊢;omega),cA.out.trans C6.out (fun j hj=>Qg (by rw[iH.out.aL] at hj;exact (iH.out.low j hj).1))⟩
     case measure=>simp[yx]
  | cons x l =>
   obtain⟨ab,xQ,atz,rfl,ca,IX,Sp⟩:=hu.cons;have HU:=lh hu;have eX:=hc.c ca;have al:decide (((l.length+1:Nat):Int) > 0)=true:=decide_eq_true (by omega);have az:(((l.length+1:Nat):Int)==0)=false:=by rw[beq_eq_false_iff_ne];omega
   clear ca hu;cases m with
   | nil =>
    have HV:=lh hv;obtain⟨⟨bo',bc',rfl,-⟩,-⟩:=hv;clear hc;cases one with
    | false =>
     obtain rfl:zA=2:=HN.out.symm;go_wp2;have aD:ai [] wr wr.drew:=(ai.refl [] wr).drew;refine au (ai [] wr) [0,1,2,3,4,5,6,7,8,9,10,11,12,13,14,15,16,17] (Way.line [0,1,2,3,4,5,6,7,8,9,10,11,12,13,14,15,16,17] .done) (by kernel_rfl) (by kernel_rfl) ?_;simp only[Way.line]
     repeat
      first
       | (refine ar rfl (by rfl) (by rfl) (fun _ _ _ h=>h) aD ?_;simp only[Qa,Z1,Z2,Z3,Z4,Z5,Z6])
       | (refine aq (v:=?_) rfl (by rfl) (by rfl) (fun _ _ _ h=>h) aD (fun w' aK=>?_) ?_;rotate_left;(focus (have fU:=aK.c eX;clear aK;go_simp;try with_reducible rfl));simp only[Qa,Z1,Z2,Z3,Z4,Z5,Z6])
       | (refine ak rfl (by rfl) (by rfl) aD ?_;simp only[Qa,Z1,Z2,Z3,Z4,Z5,Z6])
     refine aB ?_;have b8:=lh (A6.out.t aD);have gO:=lh (pR.out.aM aD (by simp));have qz:=lh (Qb BJ.out aD.size);have eX:=aD.c eX;clear aD;generalize wr.drew=w2 at *;go_wp2
     go_roundw
     case rel=>exact⟨l,[],_,HU.out.tail,HV.out,gO.out,lh (by rw[<-Plain.Mr x];exact HM.out),lh (by have:=HL.out;simp at this ⊢;omega),lh (by have:=LK.out;simp at this ⊢;omega),b8.out⟩
     case measure=>simp[yx]
    | true =>
     obtain rfl:zA=1:=HN.out.symm;go_wp2;have aD:ai [] wr wr.drew:=(ai.refl [] wr).drew;refine au (ai [] wr) [0,1,2,3,4,5,6,7,8,9,10,11,12,13,14,15,16,17] (Way.line [0,1,2,3,4,5,6,7,8,9,10,11,12,13,14,15,16,17] .done) (by kernel_rfl) (by kernel_rfl) ?_;simp only[Way.line]
     repeat
      first
       | (refine ar rfl (by rfl) (by rfl) (fun _ _ _ h=>h) aD ?_;simp only[Qa,Z1,Z2,Z3,Z4,Z5,Z6])
       | (refine aq (v:=?_) rfl (by rfl) (by rfl) (fun _ _ _ h=>h) aD (fun w' aK=>?_) ?_;rotate_left;(focus (have fU:=aK.c eX;clear aK;go_simp;try with_reducible rfl));simp only[Qa,Z1,Z2,Z3,Z4,Z5,Z6])
       | (refine ak rfl (by rfl) (by rfl) aD ?_;simp only[Qa,Z1,Z2,Z3,Z4,Z5,Z6])
     refine aB ?_;have b8:=lh (A6.out.t aD);have gO:=lh (pR.out.aM aD (by simp));have qz:=lh (Qb BJ.out aD.size);have eX:=aD.c eX;clear aD;generalize wr.drew=w2 at *
     go_wp2_with (at_builtin;refine fA rfl _ _ rfl (B:=w.heap.size) (v:=.slice oo _ oc) rfl rfl gO.out IX qz.out ql rfl ?_;intro v6 w6 r6 c6 f6;have R6:=lh r6;have C6:=lh c6;clear r6 c6 f6)
     go_roundw
     case rel=>exact⟨l,[],_,HU.out.tail,HV.out,R6.out,lh (by rw[Qe,<-Plain.Kh];exact HM.out),lh (by have:=HL.out;simp at this ⊢;omega),lh (by have:=LK.out;simp at this ⊢;omega),b8.out.trans C6.out (fun j hj=>Qg (by rw[gO.out.aL] at hj;exact (gO.out.low j hj).1))⟩
     case measure=>simp[yx]
   | cons y m =>
    obtain⟨bb,rh,afR,rfl,cb,IY,rR⟩:=hv.cons;have HV:=lh hv;have dz:=hc.c cb;have bl:decide (((m.length+1:Nat):Int) > 0)=true:=decide_eq_true (by omega);have bz:(((m.length+1:Nat):Int)==0)=false:=by rw[beq_eq_false_iff_ne];omega
    clear cb hv hc;by_cases fW:x<y
    ·have bxy:decide (x<y)=true:=decide_eq_true fW
     have Yy:=lh fW;clear fW;cases one with
     | false =>
      obtain rfl:zA=2:=HN.out.symm;go_wp2;have aD:ai [] wr wr.drew:=(ai.refl [] wr).drew;refine au (ai [] wr) [0,1,2,3,4,5,6,7,8,9,10,11,12,13,14,15,16,17] (Way.line [0,1,2,3,4,5,6,7,8,9,10,11,12,13,14,15,16,17] .done) (by kernel_rfl) (by kernel_rfl) ?_;simp only[Way.line]
      repeat
       first
        | (refine ar rfl (by rfl) (by rfl) (fun _ _ _ h=>h) aD ?_;simp only[Qa,Z1,Z2,Z3,Z4,Z5,Z6])
        | (refine aq (v:=?_) rfl (by rfl) (by rfl) (fun _ _ _ h=>h) aD (fun w' aK=>?_) ?_;rotate_left;(focus (have fU:=aK.c eX;have gX:=aK.c dz;clear aK;go_simp;try with_reducible rfl));simp only[Qa,Z1,Z2,Z3,Z4,Z5,Z6])
        | (refine ak rfl (by rfl) (by rfl) aD ?_;simp only[Qa,Z1,Z2,Z3,Z4,Z5,Z6])
      refine aB ?_;have b8:=lh (A6.out.t aD);have gO:=lh (pR.out.aM aD (by simp));have qz:=lh (Qb BJ.out aD.size);have eX:=aD.c eX;have dz:=aD.c dz;clear aD;generalize wr.drew=w2 at *;go_wp2
      go_roundw
      case rel=>exact⟨l,(y :: m),_,HU.out.tail,HV.out,gO.out,lh (by rw[<-Plain.GZ Yy.out];exact HM.out),lh (by have:=HL.out;simp at this ⊢;omega),lh (by have:=LK.out;simp at this ⊢;omega),b8.out⟩
      case measure=>simp[yx]
     | true =>
      obtain rfl:zA=1:=HN.out.symm;go_wp2;have aD:ai [] wr wr.drew:=(ai.refl [] wr).drew;refine au (ai [] wr) [0,1,2,3,4,5,6,7,8,9,10,11,12,13,14,15,16,17] (Way.line [0,1,2,3,4,5,6,7,8,9,10,11,12,13,14,15,16,17] .done) (by kernel_rfl) (by kernel_rfl) ?_;simp only[Way.line]
      repeat
       first
        | (refine ar rfl (by rfl) (by rfl) (fun _ _ _ h=>h) aD ?_;simp only[Qa,Z1,Z2,Z3,Z4,Z5,Z6])
        | (refine aq (v:=?_) rfl (by rfl) (by rfl) (fun _ _ _ h=>h) aD (fun w' aK=>?_) ?_;rotate_left;(focus (have fU:=aK.c eX;have gX:=aK.c dz;clear aK;go_simp;try with_reducible rfl));simp only[Qa,Z1,Z2,Z3,Z4,Z5,Z6])
        | (refine ak rfl (by rfl) (by rfl) aD ?_;simp only[Qa,Z1,Z2,Z3,Z4,Z5,Z6])
      refine aB ?_;have b8:=lh (A6.out.t aD);have gO:=lh (pR.out.aM aD (by simp));have qz:=lh (Qb BJ.out aD.size);have eX:=aD.c eX;have dz:=aD.c dz;clear aD;generalize wr.drew=w2 at *
      go_wp2_with (at_builtin;refine fA rfl _ _ rfl (B:=w.heap.size) (v:=.slice oo _ oc) rfl rfl gO.out IX qz.out ql rfl ?_;intro v6 w6 r6 c6 f6;have R6:=lh r6;have C6:=lh c6;clear r6 c6 f6)
      go_roundw
      case rel=>exact⟨l,(y :: m),_,HU.out.tail,HV.out,R6.out,lh (by rw[Qe,<-Plain.Gw Yy.out];exact HM.out),lh (by have:=HL.out;simp at this ⊢;omega),lh (by have:=LK.out;simp at this ⊢;omega),b8.out.trans C6.out (fun j hj=>Qg (by rw[gO.out.aL] at hj;exact (gO.out.low j hj).1))⟩
      case measure=>simp[yx]
    have bxy:decide (x<y)=false:=decide_eq_false fW;by_cases Zu:y<x
    ·have byx:decide (y<x)=true:=decide_eq_true Zu
     have Yy:=lh Zu;clear fW Zu;cases one with
     | false =>
      obtain rfl:zA=2:=HN.out.symm;go_wp2;have aD:ai [] wr wr.drew:=(ai.refl [] wr).drew;refine au (ai [] wr) [0,1,2,3,4,5,6,7,8,9,10,11,12,13,14,15,16,17] (Way.line [0,1,2,3,4,5,6,7,8,9,10,11,12,13,14,15,16,17] .done) (by kernel_rfl) (by kernel_rfl) ?_;simp only[Way.line]
      repeat
       first
        | (refine ar rfl (by rfl) (by rfl) (fun _ _ _ h=>h) aD ?_;simp only[Qa,Z1,Z2,Z3,Z4,Z5,Z6])
        | (refine aq (v:=?_) rfl (by rfl) (by rfl) (fun _ _ _ h=>h) aD (fun w' aK=>?_) ?_;rotate_left;(focus (have fU:=aK.c eX;have gX:=aK.c dz;clear aK;go_simp;try with_reducible rfl));simp only[Qa,Z1,Z2,Z3,Z4,Z5,Z6])
        | (refine ak rfl (by rfl) (by rfl) aD ?_;simp only[Qa,Z1,Z2,Z3,Z4,Z5,Z6])
      refine aB ?_;have b8:=lh (A6.out.t aD);have gO:=lh (pR.out.aM aD (by simp));have qz:=lh (Qb BJ.out aD.size);have eX:=aD.c eX;have dz:=aD.c dz;clear aD;generalize wr.drew=w2 at *;go_wp2;have aD:ai [] w2 w2.drew:=(ai.refl [] w2).drew;refine au (ai [] w2) [0,1,2,3,4,5,6,7,8,9,10,11,12] (Way.line [0,1,2,3,4,5,6,7,8,9,10,11,12] .done) (by kernel_rfl) (by kernel_rfl) ?_;simp only[Way.line]
      repeat
       first
        | (refine ar rfl (by rfl) (by rfl) (fun _ _ _ h=>h) aD ?_;simp only[Qa,Z1,Z2,Z3,Z4,Z5,Z6])
        | (refine aq (v:=?_) rfl (by rfl) (by rfl) (fun _ _ _ h=>h) aD (fun w' aK=>?_) ?_;rotate_left;(focus (have fU:=aK.c eX;have gX:=aK.c dz;clear aK;go_simp;try with_reducible rfl));simp only[Qa,Z1,Z2,Z3,Z4,Z5,Z6])
        | (refine ak rfl (by rfl) (by rfl) aD ?_;simp only[Qa,Z1,Z2,Z3,Z4,Z5,Z6])
      refine aB ?_;have cA:=lh (b8.out.t aD);have iH:=lh (gO.out.aM aD (by simp));have Ho:=lh (Qb qz.out aD.size);have dz:=aD.c dz;clear aD;generalize w2.drew=w3 at *;go_wp2
      go_roundw
      case rel=>exact⟨(x :: l),m,_,HU.out,HV.out.tail,iH.out,lh (by rw[<-Plain.Hu Yy.out];exact HM.out),lh (by have:=HL.out;simp at this ⊢;omega),lh (by have:=LK.out;simp at this ⊢;omega),cA.out⟩
      case measure=>simp[yx]
     | true =>
      obtain rfl:zA=1:=HN.out.symm;go_wp2;have aD:ai [] wr wr.drew:=(ai.refl [] wr).drew;refine au (ai [] wr) [0,1,2,3,4,5,6,7,8,9,10,11,12,13,14,15,16,17] (Way.line [0,1,2,3,4,5,6,7,8,9,10,11,12,13,14,15,16,17] .done) (by kernel_rfl) (by kernel_rfl) ?_;simp only[Way.line]
      repeat
       first
        | (refine ar rfl (by rfl) (by rfl) (fun _ _ _ h=>h) aD ?_;simp only[Qa,Z1,Z2,Z3,Z4,Z5,Z6])
        | (refine aq (v:=?_) rfl (by rfl) (by rfl) (fun _ _ _ h=>h) aD (fun w' aK=>?_) ?_;rotate_left;(focus (have fU:=aK.c eX;have gX:=aK.c dz;clear aK;go_simp;try with_reducible rfl));simp only[Qa,Z1,Z2,Z3,Z4,Z5,Z6])
        | (refine ak rfl (by rfl) (by rfl) aD ?_;simp only[Qa,Z1,Z2,Z3,Z4,Z5,Z6])
      refine aB ?_;have b8:=lh (A6.out.t aD);have gO:=lh (pR.out.aM aD (by simp));have qz:=lh (Qb BJ.out aD.size);have eX:=aD.c eX;have dz:=aD.c dz;clear aD;generalize wr.drew=w2 at *;go_wp2;have aD:ai [] w2 w2.drew:=(ai.refl [] w2).drew;refine au (ai [] w2) [0,1,2,3,4,5,6,7,8,9,10,11,12] (Way.line [0,1,2,3,4,5,6,7,8,9,10,11,12] .done) (by kernel_rfl) (by kernel_rfl) ?_;simp only[Way.line]
      repeat
       first
        | (refine ar rfl (by rfl) (by rfl) (fun _ _ _ h=>h) aD ?_;simp only[Qa,Z1,Z2,Z3,Z4,Z5,Z6])
        | (refine aq (v:=?_) rfl (by rfl) (by rfl) (fun _ _ _ h=>h) aD (fun w' aK=>?_) ?_;rotate_left;(focus (have fU:=aK.c eX;have gX:=aK.c dz;clear aK;go_simp;try with_reducible rfl));simp only[Qa,Z1,Z2,Z3,Z4,Z5,Z6])
        | (refine ak rfl (by rfl) (by rfl) aD ?_;simp only[Qa,Z1,Z2,Z3,Z4,Z5,Z6])
      refine aB ?_;have cA:=lh (b8.out.t aD);have iH:=lh (gO.out.aM aD (by simp));have Ho:=lh (Qb qz.out aD.size);have dz:=aD.c dz;clear aD;generalize w2.drew=w3 at *
      go_wp2_with (at_builtin;refine fA rfl _ _ rfl (B:=w.heap.size) (v:=.slice oo _ oc) rfl rfl iH.out IY Ho.out ql rfl ?_;intro v6 w6 r6 c6 f6;have R6:=lh r6;have C6:=lh c6;clear r6 c6 f6)
      go_roundw
      case rel=>exact⟨(x :: l),m,_,HU.out,HV.out.tail,R6.out,lh (by rw[Qe,<-Plain.GK Yy.out];exact HM.out),lh (by have:=HL.out;simp at this ⊢;omega),lh (by have:=LK.out;simp at this ⊢;omega),cA.out.trans C6.out (fun j hj=>Qg (by rw[iH.out.aL] at hj;exact (iH.out.low j hj).1))⟩
      case measure=>simp[yx]
    have byx:decide (y<x)=false:=decide_eq_false Zu;have hxe:x=y:=by omega
    have Yy:=lh hxe;clear fW Zu hxe;go_wp2;have aD:ai [] wr wr.drew:=(ai.refl [] wr).drew;refine au (ai [] wr) [0,1,2,3,4,5,6,7,8,9,10,11,12,13,14,15,16,17] (Way.line [0,1,2,3,4,5,6,7,8,9,10,11,12,13,14,15,16,17] .done) (by kernel_rfl) (by kernel_rfl) ?_;simp only[Way.line]
    repeat
     first
      | (refine ar rfl (by rfl) (by rfl) (fun _ _ _ h=>h) aD ?_;simp only[Qa,Z1,Z2,Z3,Z4,Z5,Z6])
      | (refine aq (v:=?_) rfl (by rfl) (by rfl) (fun _ _ _ h=>h) aD (fun w' aK=>?_) ?_;rotate_left;(focus (have fU:=aK.c eX;have gX:=aK.c dz;clear aK;go_simp;try with_reducible rfl));simp only[Qa,Z1,Z2,Z3,Z4,Z5,Z6])
      | (refine ak rfl (by rfl) (by rfl) aD ?_;simp only[Qa,Z1,Z2,Z3,Z4,Z5,Z6])
    refine aB ?_;have b8:=lh (A6.out.t aD);have gO:=lh (pR.out.aM aD (by simp));have qz:=lh (Qb BJ.out aD.size);have eX:=aD.c eX;have dz:=aD.c dz;clear aD;generalize wr.drew=w2 at *;go_wp2;have aD:ai [] w2 w2.drew:=(ai.refl [] w2).drew;refine au (ai [] w2) [0,1,2,3,4,5,6,7,8,9,10,11,12] (Way.line [0,1,2,3,4,5,6,7,8,9,10,11,12] .done) (by kernel_rfl) (by kernel_rfl) ?_;simp only[Way.line]
    repeat
     first
      | (refine ar rfl (by rfl) (by rfl) (fun _ _ _ h=>h) aD ?_;simp only[Qa,Z1,Z2,Z3,Z4,Z5,Z6])
      | (refine aq (v:=?_) rfl (by rfl) (by rfl) (fun _ _ _ h=>h) aD (fun w' aK=>?_) ?_;rotate_left;(focus (have fU:=aK.c eX;have gX:=aK.c dz;clear aK;go_simp;try with_reducible rfl));simp only[Qa,Z1,Z2,Z3,Z4,Z5,Z6])
      | (refine ak rfl (by rfl) (by rfl) aD ?_;simp only[Qa,Z1,Z2,Z3,Z4,Z5,Z6])
    refine aB ?_;have cA:=lh (b8.out.t aD);have iH:=lh (gO.out.aM aD (by simp));have Ho:=lh (Qb qz.out aD.size);have eX:=aD.c eX;clear aD;generalize w2.drew=w3 at *
    go_wp2_with (at_builtin;refine fA rfl _ _ rfl (B:=w.heap.size) (v:=.slice oo _ oc) rfl rfl iH.out IX Ho.out ql rfl ?_;intro v6 w6 r6 c6 f6;have R6:=lh r6;have C6:=lh c6;clear r6 c6 f6)
    have nm:=lh (cA.out.trans C6.out (fun j hj=>Qg (by rw[iH.out.aL] at hj;exact (iH.out.low j hj).1)));have n1:(1:Int)<=((l.length+1:Nat):Int):=by omega
    have n2:(1:Int)<=((m.length+1:Nat):Int):=by omega
    have n3:(1:Int)<=(l.length:Int)+1:=by omega
    have n4:(1:Int)<=(m.length:Int)+1:=by omega
    have aD:ai [] w6 w6.drew:=(ai.refl [] w6).drew;refine au (ai [] w6) [0,1,2,3,4,5] (Way.line [0,1,2,3,4,5] .done) (by kernel_rfl) (by kernel_rfl) ?_;simp only[Way.line]
    repeat
     first
      | (refine ar rfl (by rfl) (by rfl) (fun _ _ _ h=>h) aD ?_;simp only[Qa,Z1,Z2,Z3,Z4,Z5,Z6])
      | (refine aq (v:=?_) rfl (by rfl) (by rfl) (fun _ _ _ h=>h) aD (fun w' aK=>?_) ?_;rotate_left;(focus (skip;clear aK;go_simp;try with_reducible rfl));simp only[Qa,Z1,Z2,Z3,Z4,Z5,Z6])
      | (refine ak rfl (by rfl) (by rfl) aD ?_;simp only[Qa,Z1,Z2,Z3,Z4,Z5,Z6])
    refine aB ?_;have xf:=lh (nm.out.t aD);have afj:=lh (R6.out.aM aD (by simp));clear aD;generalize w6.drew=w9 at *;go_wp2
    go_roundw
    case rel=>exact⟨l,m,_,HU.out.tail,HV.out.tail,afj.out,lh (by have:=HM.out;rw[<-Yy.out,Plain.Kp,<-Qe] at this;exact this),lh (by have:=HL.out;simp at this ⊢;omega),lh (by have:=LK.out;simp at this ⊢;omega),xf.out⟩
    case measure=>simp[yx];omega
end Go.Proofs.YtbkjljffnkdcjaaGreat
