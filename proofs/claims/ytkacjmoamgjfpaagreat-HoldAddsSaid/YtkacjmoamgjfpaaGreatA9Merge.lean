/- graph.merge, And, Or: contracts. Conditions: rising lists, parts that lie in memory and read so. -/
import Derived.Test.YtkacjmoamgjfpaaGreatA9OrL
import Derived.Test.YtkacjmoamgjfpaaGreatA9Ref09
namespace Go.Proofs.YtkacjmoamgjfpaaGreat
open Go.RowKit Go.Maps
namespace aA
def bL (one:Bool):List Int→List Int→List Int
 | [],b=>if one then b else []
 | x :: a,[]=>if one then x :: a else []
 | x :: a,y :: b=>if x<y then (if one then x :: bL one a (y :: b) else bL one a (y :: b)) else if y<x then (if one then y :: bL one (x :: a) b else bL one (x :: a) b) else x :: bL one a b
termination_by a b=>a.length+b.length
theorem gT:∀ a b:List Int,bL true a b=orL a b
 | [],b=>by simp[bL,orL]
 | x :: a,[]=>by simp[bL,orL]
 | x :: a,y :: b=>by
  rw[bL,orL,gT a (y :: b),gT (x :: a) b,gT a b];by_cases h:x<y
  ·have e1:x≤y:=by omega
   have e2:¬ x=y:=by omega
   simp[h,e1,e2]
  by_cases h2:y<x
  ·have e1:¬ x≤y:=by omega
   simp[h,h2,e1]
  obtain rfl:x=y:=by omega
  simp
termination_by a b=>a.length+b.length
theorem mR (one:Bool):∀ a b:List Int,(bL one a b).length≤a.length+b.length
 | [],b=>by rw[bL];split <;> simp
 | x :: a,[]=>by rw[bL];split <;> simp
 | x :: a,y :: b=>by
  have h1:=mR one a (y :: b);have h2:=mR one (x :: a) b;have h3:=mR one a b;rw[bL];simp only[List.length_cons] at h1 h2 h3 ⊢;split
  ·split <;> (try simp only[List.length_cons]) <;> omega
  split
  ·split <;> (try simp only[List.length_cons]) <;> omega
  simp only[List.length_cons];omega
termination_by a b=>a.length+b.length
end aA
def iB (w:World) (v:Value) (l:List Int):Prop:=aL w v l∧gI v
theorem iB.fresh {w w':World} {v:Value} {l:List Int} (h:iB w v l) (hc:Chg [] w w'):iB w' v l:=⟨h.1.fresh hc,h.2⟩
theorem iB.cons {w:World} {v:Value} {x:Int} {l:List Int} (h:iB w v (x :: l)):∃ b off cap,v=.slice (some ⟨b,off,none⟩) (l.length+1) cap∧w.cell? ⟨b,off,none⟩=some (.int .i64 x)∧I64 x∧l.length+1≤cap:=by
 obtain⟨⟨ao,cap,rfl,h1,h2,h3⟩,ao',n',cap',e,h4,h5⟩:=h;simp only[Value.slice.injEq] at e;obtain⟨rfl,rfl,rfl⟩:=e;obtain⟨b,off,rfl,hc⟩:=h3 (by simp);exact⟨b,off,cap,rfl,by simpa using hc 0 (by simp),h1 x (by simp),by simpa using h4⟩
theorem iB.tail {w:World} {b off cap:Nat} {x:Int} {l:List Int} (h:iB w (.slice (some ⟨b,off,none⟩) (l.length+1) cap) (x :: l)):iB w (.slice (if cap=1 then some ⟨b,off,none⟩ else some ⟨b,off+1,none⟩) l.length (cap - 1)) l:=by
 obtain⟨⟨ao,cap',e,h1,h2,h3⟩,ao',n',cap2,e2,h4,h5⟩:=h;simp only[Value.slice.injEq] at e e2;obtain⟨rfl,-,rfl⟩:=e;obtain⟨rfl,rfl,rfl⟩:=e2;obtain⟨b',off',e,hc⟩:=h3 (by simp);simp only[Option.some.injEq,Addr.mk.injEq] at e;obtain⟨rfl,rfl,-⟩:=e;refine⟨⟨_,_,rfl,fun y hy=>h1 y (List.mem_cons_of_mem _ hy),by simp at h2;omega,fun hne=>?_⟩,_,_,_,rfl,by omega,by omega⟩;have hl:0<l.length:=List.length_pos_iff.2 hne;rw[if_neg (by omega)];refine⟨b,off+1,rfl,fun i hi=>?_⟩;have:=hc (i+1) (by simp;omega);rw[show off+1+i=off+(i+1) by omega,this];simp
namespace aA
theorem aDJ (one:Bool):bL one [] []=[]:=by rw[bL];split <;> rfl
theorem lQ (one:Bool) (l:List Int):bL one l []=if one then l else []:=by cases l <;> rw[bL]
theorem kN (one:Bool) (l:List Int):bL one [] l=if one then l else []:=by rw[bL]
theorem aE7 (x:Int) (l:List Int):bL true (x :: l) []=[x]++bL true l []:=by rw[lQ,lQ];rfl
theorem aEE (x:Int) (l:List Int):bL false (x :: l) []=bL false l []:=by rw[lQ,lQ];rfl
theorem aFt (x:Int) (l:List Int):bL true [] (x :: l)=[x]++bL true [] l:=by rw[kN,kN];rfl
theorem aE5 (x:Int) (l:List Int):bL false [] (x :: l)=bL false [] l:=by rw[kN,kN];rfl
theorem aCP {x y:Int} (h:x<y) (l m:List Int):bL true (x :: l) (y :: m)=[x]++bL true l (y :: m):=by rw[bL,if_pos h];rfl
theorem aCw {x y:Int} (h:x<y) (l m:List Int):bL false (x :: l) (y :: m)=bL false l (y :: m):=by rw[bL,if_pos h];rfl
theorem aCX {x y:Int} (h:y<x) (l m:List Int):bL true (x :: l) (y :: m)=[y]++bL true (x :: l) m:=by rw[bL,if_neg (by omega),if_pos h];rfl
theorem aCO {x y:Int} (h:y<x) (l m:List Int):bL false (x :: l) (y :: m)=bL false (x :: l) m:=by rw[bL,if_neg (by omega),if_pos h];rfl
theorem aEM (one:Bool) (x:Int) (l m:List Int):bL one (x :: l) (x :: m)=[x]++bL one l m:=by rw[bL,if_neg (by omega),if_neg (by omega)];rfl
end aA
def vH:Value→Nat | .slice _ n _=>n | _=>0
set_option maxRecDepth 100000 in
set_option maxHeartbeats 4000000 in
theorem pM (va vb:Value) (a b:List Int) (one:Bool) (w:World) (hla:a.length≤1000000) (hlb:b.length≤1000000) (ha:iB w va a) (hb:iB w vb b) :
  Calls Tryz.prog 72 #[va,vb,.int .i64 (if one then 1 else 2)] w fun e w'=>∃ ov,e=.returned ov∧aM w' w.heap.size ov (aA.bL one a b)∧Chg [] w w':=by
 obtain⟨need,hneed⟩:∃ need:Int,(if one then 1 else 2)=need:=⟨_,rfl⟩;have HA:=lh ha;have HB:=lh hb;obtain⟨⟨ao,ac,rfl,-⟩,-⟩:=ha;obtain⟨⟨bo,bc,rfl,-⟩,-⟩:=hb;rw[hneed];have HN:=lh hneed;clear hneed
 go_enter Tryz.func72,Tryz.ntmps72
 go_wp2
 go_loopw [0,1,7] (fun u v ov wr=>∃ (l m M:List Int),iB w u l∧iB w v m∧aM wr w.heap.size ov M∧Hid (M++aA.bL one l m=aA.bL one a b)∧Hid (M.length+l.length+m.length≤a.length+b.length)∧Hid (l.length≤1000000∧m.length≤1000000)∧Chg [] w wr) (fun u v _ _=>vH u+vH v)
 case atStart=>exact⟨a,b,[],HA.out,HB.out,gH _ _,lh (by simp),lh (by simp),lh ⟨hla,hlb⟩,Chg.refl _ _⟩
 case round =>
  obtain⟨l,m,M,hu,hv,hrow,HM,HL,HLL,hc⟩:=hrel;have HROW0:=lh hrow;have HC0:=lh hc;have HBS0:=lh (show w.heap.size≤wr.heap.size from hc.size);obtain⟨oo,oc,rfl⟩:=hrow.shape;have hml:M.length<4294967290:=by have:=HL.out;omega
  clear hrow;cases l with
  | nil =>
   have HU:=lh hu;obtain⟨⟨ao',ac',rfl,-⟩,-⟩:=hu;cases m with
   | nil =>
    obtain⟨⟨bo',bc',rfl,-⟩,-⟩:=hv;have HE:=lh (show M=aA.bL one a b by have:=HM.out;rwa[aA.aDJ,List.append_nil] at this);clear hc;go_wp2;go_ret;exact⟨_,rfl,by rw[←HE.out];exact HROW0.out,HC0.out⟩
   | cons y m =>
    obtain⟨bb,boff,bcap,rfl,cb,IY,hbc⟩:=hv.cons;have HV:=lh hv;have bcell:=hc.c cb;have bl:decide (((m.length+1:Nat):Int) > 0)=true:=decide_eq_true (by omega);have bz:(((m.length+1:Nat):Int)==0)=false:=by rw[beq_eq_false_iff_ne];omega
    clear cb hv hc;cases one with
    | false =>
     obtain rfl:need=2:=HN.out.symm;go_wp2;have hS0:Chg [] wr wr.drew:=(Chg.refl [] wr).drew;refine aF (Chg [] wr) [0,1,2,3,4,5,6,7,8,9,10,11,12,13,14,15,16,17] (Way.line [0,1,2,3,4,5,6,7,8,9,10,11,12,13,14,15,16,17] .done) (by kernel_rfl) (by kernel_rfl) ?_;simp only[Way.line]
     repeat
      first
       | (refine aE rfl (by rfl) (by rfl) (fun _ _ _ h=>h) hS0 ?_;simp only[Act.put,Z1,Z2,Z3,Z4,Z5,Z6])
       | (refine aC (v:=?_) rfl (by rfl) (by rfl) (fun _ _ _ h=>h) hS0 (fun w' hS'=>?_) ?_;rotate_left;(focus (have rd0:=hS'.c bcell;clear hS';go_simp;try with_reducible rfl));simp only[Act.put,Z1,Z2,Z3,Z4,Z5,Z6])
       | (refine aD rfl (by rfl) (by rfl) hS0 ?_;simp only[Act.put,Z1,Z2,Z3,Z4,Z5,Z6])
     refine aG ?_;have HC1:=lh (HC0.out.t hS0);have HROW1:=lh (HROW0.out.chg hS0 (by simp));have HBS1:=lh (Nat.le_trans HBS0.out hS0.size);have bcell:=hS0.c bcell;clear hS0;generalize wr.drew=w2 at *;go_wp2;have hS0:Chg [] w2 w2.drew:=(Chg.refl [] w2).drew;refine aF (Chg [] w2) [0,1,2,3,4,5,6,7,8,9,10,11,12] (Way.line [0,1,2,3,4,5,6,7,8,9,10,11,12] .done) (by kernel_rfl) (by kernel_rfl) ?_;simp only[Way.line]
     repeat
      first
       | (refine aE rfl (by rfl) (by rfl) (fun _ _ _ h=>h) hS0 ?_;simp only[Act.put,Z1,Z2,Z3,Z4,Z5,Z6])
       | (refine aC (v:=?_) rfl (by rfl) (by rfl) (fun _ _ _ h=>h) hS0 (fun w' hS'=>?_) ?_;rotate_left;(focus (have rd0:=hS'.c bcell;clear hS';go_simp;try with_reducible rfl));simp only[Act.put,Z1,Z2,Z3,Z4,Z5,Z6])
       | (refine aD rfl (by rfl) (by rfl) hS0 ?_;simp only[Act.put,Z1,Z2,Z3,Z4,Z5,Z6])
     refine aG ?_;have HC2:=lh (HC1.out.t hS0);have HROW2:=lh (HROW1.out.chg hS0 (by simp));have HBS2:=lh (Nat.le_trans HBS1.out hS0.size);have bcell:=hS0.c bcell;clear hS0;generalize w2.drew=w3 at *;go_wp2
     go_roundw
     case rel=>exact⟨[],m,_,HU.out,HV.out.tail,HROW2.out,lh (by rw[←aA.aE5 y];exact HM.out),lh (by have:=HL.out;simp at this ⊢;omega),lh (by have:=HLL.out;simp at this ⊢;omega),HC2.out⟩
     case measure=>simp[vH]
    | true =>
     obtain rfl:need=1:=HN.out.symm;go_wp2;have hS0:Chg [] wr wr.drew:=(Chg.refl [] wr).drew;refine aF (Chg [] wr) [0,1,2,3,4,5,6,7,8,9,10,11,12,13,14,15,16,17] (Way.line [0,1,2,3,4,5,6,7,8,9,10,11,12,13,14,15,16,17] .done) (by kernel_rfl) (by kernel_rfl) ?_;simp only[Way.line]
     repeat
      first
       | (refine aE rfl (by rfl) (by rfl) (fun _ _ _ h=>h) hS0 ?_;simp only[Act.put,Z1,Z2,Z3,Z4,Z5,Z6])
       | (refine aC (v:=?_) rfl (by rfl) (by rfl) (fun _ _ _ h=>h) hS0 (fun w' hS'=>?_) ?_;rotate_left;(focus (have rd0:=hS'.c bcell;clear hS';go_simp;try with_reducible rfl));simp only[Act.put,Z1,Z2,Z3,Z4,Z5,Z6])
       | (refine aD rfl (by rfl) (by rfl) hS0 ?_;simp only[Act.put,Z1,Z2,Z3,Z4,Z5,Z6])
     refine aG ?_;have HC1:=lh (HC0.out.t hS0);have HROW1:=lh (HROW0.out.chg hS0 (by simp));have HBS1:=lh (Nat.le_trans HBS0.out hS0.size);have bcell:=hS0.c bcell;clear hS0;generalize wr.drew=w2 at *;go_wp2;have hS0:Chg [] w2 w2.drew:=(Chg.refl [] w2).drew;refine aF (Chg [] w2) [0,1,2,3,4,5,6,7,8,9,10,11,12] (Way.line [0,1,2,3,4,5,6,7,8,9,10,11,12] .done) (by kernel_rfl) (by kernel_rfl) ?_;simp only[Way.line]
     repeat
      first
       | (refine aE rfl (by rfl) (by rfl) (fun _ _ _ h=>h) hS0 ?_;simp only[Act.put,Z1,Z2,Z3,Z4,Z5,Z6])
       | (refine aC (v:=?_) rfl (by rfl) (by rfl) (fun _ _ _ h=>h) hS0 (fun w' hS'=>?_) ?_;rotate_left;(focus (have rd0:=hS'.c bcell;clear hS';go_simp;try with_reducible rfl));simp only[Act.put,Z1,Z2,Z3,Z4,Z5,Z6])
       | (refine aD rfl (by rfl) (by rfl) hS0 ?_;simp only[Act.put,Z1,Z2,Z3,Z4,Z5,Z6])
     refine aG ?_;have HC2:=lh (HC1.out.t hS0);have HROW2:=lh (HROW1.out.chg hS0 (by simp));have HBS2:=lh (Nat.le_trans HBS1.out hS0.size);have bcell:=hS0.c bcell;clear hS0;generalize w2.drew=w3 at *
     go_wp2_with (at_builtin;refine dS rfl _ _ rfl (B:=w.heap.size) (v:=.slice oo _ oc) rfl rfl HROW2.out IY HBS2.out hml rfl ?_;intro v6 w6 r6 c6 f6;have R6:=lh r6;have C6:=lh c6;clear r6 c6 f6)
     go_roundw
     case rel=>exact⟨[],m,_,HU.out,HV.out.tail,R6.out,lh (by rw[List.append_assoc,←aA.aFt];exact HM.out),lh (by have:=HL.out;simp at this ⊢;omega),lh (by have:=HLL.out;simp at this ⊢;omega),HC2.out.trans C6.out (fun j hj=>Or.inr (by rw[HROW2.out.aP] at hj;exact (HROW2.out.low j hj).1))⟩
     case measure=>simp[vH]
  | cons x l =>
   obtain⟨ab,aoff,acap,rfl,ca,IX,hac⟩:=hu.cons;have HU:=lh hu;have acell:=hc.c ca;have al:decide (((l.length+1:Nat):Int) > 0)=true:=decide_eq_true (by omega);have az:(((l.length+1:Nat):Int)==0)=false:=by rw[beq_eq_false_iff_ne];omega
   clear ca hu;cases m with
   | nil =>
    have HV:=lh hv;obtain⟨⟨bo',bc',rfl,-⟩,-⟩:=hv;clear hc;cases one with
    | false =>
     obtain rfl:need=2:=HN.out.symm;go_wp2;have hS0:Chg [] wr wr.drew:=(Chg.refl [] wr).drew;refine aF (Chg [] wr) [0,1,2,3,4,5,6,7,8,9,10,11,12,13,14,15,16,17] (Way.line [0,1,2,3,4,5,6,7,8,9,10,11,12,13,14,15,16,17] .done) (by kernel_rfl) (by kernel_rfl) ?_;simp only[Way.line]
     repeat
      first
       | (refine aE rfl (by rfl) (by rfl) (fun _ _ _ h=>h) hS0 ?_;simp only[Act.put,Z1,Z2,Z3,Z4,Z5,Z6])
       | (refine aC (v:=?_) rfl (by rfl) (by rfl) (fun _ _ _ h=>h) hS0 (fun w' hS'=>?_) ?_;rotate_left;(focus (have rd0:=hS'.c acell;clear hS';go_simp;try with_reducible rfl));simp only[Act.put,Z1,Z2,Z3,Z4,Z5,Z6])
       | (refine aD rfl (by rfl) (by rfl) hS0 ?_;simp only[Act.put,Z1,Z2,Z3,Z4,Z5,Z6])
     refine aG ?_;have HC1:=lh (HC0.out.t hS0);have HROW1:=lh (HROW0.out.chg hS0 (by simp));have HBS1:=lh (Nat.le_trans HBS0.out hS0.size);have acell:=hS0.c acell;clear hS0;generalize wr.drew=w2 at *;go_wp2
     go_roundw
     case rel=>exact⟨l,[],_,HU.out.tail,HV.out,HROW1.out,lh (by rw[←aA.aEE x];exact HM.out),lh (by have:=HL.out;simp at this ⊢;omega),lh (by have:=HLL.out;simp at this ⊢;omega),HC1.out⟩
     case measure=>simp[vH]
    | true =>
     obtain rfl:need=1:=HN.out.symm;go_wp2;have hS0:Chg [] wr wr.drew:=(Chg.refl [] wr).drew;refine aF (Chg [] wr) [0,1,2,3,4,5,6,7,8,9,10,11,12,13,14,15,16,17] (Way.line [0,1,2,3,4,5,6,7,8,9,10,11,12,13,14,15,16,17] .done) (by kernel_rfl) (by kernel_rfl) ?_;simp only[Way.line]
     repeat
      first
       | (refine aE rfl (by rfl) (by rfl) (fun _ _ _ h=>h) hS0 ?_;simp only[Act.put,Z1,Z2,Z3,Z4,Z5,Z6])
       | (refine aC (v:=?_) rfl (by rfl) (by rfl) (fun _ _ _ h=>h) hS0 (fun w' hS'=>?_) ?_;rotate_left;(focus (have rd0:=hS'.c acell;clear hS';go_simp;try with_reducible rfl));simp only[Act.put,Z1,Z2,Z3,Z4,Z5,Z6])
       | (refine aD rfl (by rfl) (by rfl) hS0 ?_;simp only[Act.put,Z1,Z2,Z3,Z4,Z5,Z6])
     refine aG ?_;have HC1:=lh (HC0.out.t hS0);have HROW1:=lh (HROW0.out.chg hS0 (by simp));have HBS1:=lh (Nat.le_trans HBS0.out hS0.size);have acell:=hS0.c acell;clear hS0;generalize wr.drew=w2 at *
     go_wp2_with (at_builtin;refine dS rfl _ _ rfl (B:=w.heap.size) (v:=.slice oo _ oc) rfl rfl HROW1.out IX HBS1.out hml rfl ?_;intro v6 w6 r6 c6 f6;have R6:=lh r6;have C6:=lh c6;clear r6 c6 f6)
     go_roundw
     case rel=>exact⟨l,[],_,HU.out.tail,HV.out,R6.out,lh (by rw[List.append_assoc,←aA.aE7];exact HM.out),lh (by have:=HL.out;simp at this ⊢;omega),lh (by have:=HLL.out;simp at this ⊢;omega),HC1.out.trans C6.out (fun j hj=>Or.inr (by rw[HROW1.out.aP] at hj;exact (HROW1.out.low j hj).1))⟩
     case measure=>simp[vH]
   | cons y m =>
    obtain⟨bb,boff,bcap,rfl,cb,IY,hbc⟩:=hv.cons;have HV:=lh hv;have bcell:=hc.c cb;have bl:decide (((m.length+1:Nat):Int) > 0)=true:=decide_eq_true (by omega);have bz:(((m.length+1:Nat):Int)==0)=false:=by rw[beq_eq_false_iff_ne];omega
    clear cb hv hc;by_cases hxy:x<y
    ·have bxy:decide (x<y)=true:=decide_eq_true hxy
     have HXY:=lh hxy;clear hxy;cases one with
     | false =>
      obtain rfl:need=2:=HN.out.symm;go_wp2;have hS0:Chg [] wr wr.drew:=(Chg.refl [] wr).drew;refine aF (Chg [] wr) [0,1,2,3,4,5,6,7,8,9,10,11,12,13,14,15,16,17] (Way.line [0,1,2,3,4,5,6,7,8,9,10,11,12,13,14,15,16,17] .done) (by kernel_rfl) (by kernel_rfl) ?_;simp only[Way.line]
      repeat
       first
        | (refine aE rfl (by rfl) (by rfl) (fun _ _ _ h=>h) hS0 ?_;simp only[Act.put,Z1,Z2,Z3,Z4,Z5,Z6])
        | (refine aC (v:=?_) rfl (by rfl) (by rfl) (fun _ _ _ h=>h) hS0 (fun w' hS'=>?_) ?_;rotate_left;(focus (have rd0:=hS'.c acell;have rd1:=hS'.c bcell;clear hS';go_simp;try with_reducible rfl));simp only[Act.put,Z1,Z2,Z3,Z4,Z5,Z6])
        | (refine aD rfl (by rfl) (by rfl) hS0 ?_;simp only[Act.put,Z1,Z2,Z3,Z4,Z5,Z6])
      refine aG ?_;have HC1:=lh (HC0.out.t hS0);have HROW1:=lh (HROW0.out.chg hS0 (by simp));have HBS1:=lh (Nat.le_trans HBS0.out hS0.size);have acell:=hS0.c acell;have bcell:=hS0.c bcell;clear hS0;generalize wr.drew=w2 at *;go_wp2
      go_roundw
      case rel=>exact⟨l,(y :: m),_,HU.out.tail,HV.out,HROW1.out,lh (by rw[←aA.aCw HXY.out];exact HM.out),lh (by have:=HL.out;simp at this ⊢;omega),lh (by have:=HLL.out;simp at this ⊢;omega),HC1.out⟩
      case measure=>simp[vH]
     | true =>
      obtain rfl:need=1:=HN.out.symm;go_wp2;have hS0:Chg [] wr wr.drew:=(Chg.refl [] wr).drew;refine aF (Chg [] wr) [0,1,2,3,4,5,6,7,8,9,10,11,12,13,14,15,16,17] (Way.line [0,1,2,3,4,5,6,7,8,9,10,11,12,13,14,15,16,17] .done) (by kernel_rfl) (by kernel_rfl) ?_;simp only[Way.line]
      repeat
       first
        | (refine aE rfl (by rfl) (by rfl) (fun _ _ _ h=>h) hS0 ?_;simp only[Act.put,Z1,Z2,Z3,Z4,Z5,Z6])
        | (refine aC (v:=?_) rfl (by rfl) (by rfl) (fun _ _ _ h=>h) hS0 (fun w' hS'=>?_) ?_;rotate_left;(focus (have rd0:=hS'.c acell;have rd1:=hS'.c bcell;clear hS';go_simp;try with_reducible rfl));simp only[Act.put,Z1,Z2,Z3,Z4,Z5,Z6])
        | (refine aD rfl (by rfl) (by rfl) hS0 ?_;simp only[Act.put,Z1,Z2,Z3,Z4,Z5,Z6])
      refine aG ?_;have HC1:=lh (HC0.out.t hS0);have HROW1:=lh (HROW0.out.chg hS0 (by simp));have HBS1:=lh (Nat.le_trans HBS0.out hS0.size);have acell:=hS0.c acell;have bcell:=hS0.c bcell;clear hS0;generalize wr.drew=w2 at *
      go_wp2_with (at_builtin;refine dS rfl _ _ rfl (B:=w.heap.size) (v:=.slice oo _ oc) rfl rfl HROW1.out IX HBS1.out hml rfl ?_;intro v6 w6 r6 c6 f6;have R6:=lh r6;have C6:=lh c6;clear r6 c6 f6)
      go_roundw
      case rel=>exact⟨l,(y :: m),_,HU.out.tail,HV.out,R6.out,lh (by rw[List.append_assoc,←aA.aCP HXY.out];exact HM.out),lh (by have:=HL.out;simp at this ⊢;omega),lh (by have:=HLL.out;simp at this ⊢;omega),HC1.out.trans C6.out (fun j hj=>Or.inr (by rw[HROW1.out.aP] at hj;exact (HROW1.out.low j hj).1))⟩
      case measure=>simp[vH]
    have bxy:decide (x<y)=false:=decide_eq_false hxy;by_cases hyx:y<x
    ·have byx:decide (y<x)=true:=decide_eq_true hyx
     have HXY:=lh hyx;clear hxy hyx;cases one with
     | false =>
      obtain rfl:need=2:=HN.out.symm;go_wp2;have hS0:Chg [] wr wr.drew:=(Chg.refl [] wr).drew;refine aF (Chg [] wr) [0,1,2,3,4,5,6,7,8,9,10,11,12,13,14,15,16,17] (Way.line [0,1,2,3,4,5,6,7,8,9,10,11,12,13,14,15,16,17] .done) (by kernel_rfl) (by kernel_rfl) ?_;simp only[Way.line]
      repeat
       first
        | (refine aE rfl (by rfl) (by rfl) (fun _ _ _ h=>h) hS0 ?_;simp only[Act.put,Z1,Z2,Z3,Z4,Z5,Z6])
        | (refine aC (v:=?_) rfl (by rfl) (by rfl) (fun _ _ _ h=>h) hS0 (fun w' hS'=>?_) ?_;rotate_left;(focus (have rd0:=hS'.c acell;have rd1:=hS'.c bcell;clear hS';go_simp;try with_reducible rfl));simp only[Act.put,Z1,Z2,Z3,Z4,Z5,Z6])
        | (refine aD rfl (by rfl) (by rfl) hS0 ?_;simp only[Act.put,Z1,Z2,Z3,Z4,Z5,Z6])
      refine aG ?_;have HC1:=lh (HC0.out.t hS0);have HROW1:=lh (HROW0.out.chg hS0 (by simp));have HBS1:=lh (Nat.le_trans HBS0.out hS0.size);have acell:=hS0.c acell;have bcell:=hS0.c bcell;clear hS0;generalize wr.drew=w2 at *;go_wp2;have hS0:Chg [] w2 w2.drew:=(Chg.refl [] w2).drew;refine aF (Chg [] w2) [0,1,2,3,4,5,6,7,8,9,10,11,12] (Way.line [0,1,2,3,4,5,6,7,8,9,10,11,12] .done) (by kernel_rfl) (by kernel_rfl) ?_;simp only[Way.line]
      repeat
       first
        | (refine aE rfl (by rfl) (by rfl) (fun _ _ _ h=>h) hS0 ?_;simp only[Act.put,Z1,Z2,Z3,Z4,Z5,Z6])
        | (refine aC (v:=?_) rfl (by rfl) (by rfl) (fun _ _ _ h=>h) hS0 (fun w' hS'=>?_) ?_;rotate_left;(focus (have rd0:=hS'.c acell;have rd1:=hS'.c bcell;clear hS';go_simp;try with_reducible rfl));simp only[Act.put,Z1,Z2,Z3,Z4,Z5,Z6])
        | (refine aD rfl (by rfl) (by rfl) hS0 ?_;simp only[Act.put,Z1,Z2,Z3,Z4,Z5,Z6])
      refine aG ?_;have HC2:=lh (HC1.out.t hS0);have HROW2:=lh (HROW1.out.chg hS0 (by simp));have HBS2:=lh (Nat.le_trans HBS1.out hS0.size);have bcell:=hS0.c bcell;clear hS0;generalize w2.drew=w3 at *;go_wp2
      go_roundw
      case rel=>exact⟨(x :: l),m,_,HU.out,HV.out.tail,HROW2.out,lh (by rw[←aA.aCO HXY.out];exact HM.out),lh (by have:=HL.out;simp at this ⊢;omega),lh (by have:=HLL.out;simp at this ⊢;omega),HC2.out⟩
      case measure=>simp[vH]
     | true =>
      obtain rfl:need=1:=HN.out.symm;go_wp2;have hS0:Chg [] wr wr.drew:=(Chg.refl [] wr).drew;refine aF (Chg [] wr) [0,1,2,3,4,5,6,7,8,9,10,11,12,13,14,15,16,17] (Way.line [0,1,2,3,4,5,6,7,8,9,10,11,12,13,14,15,16,17] .done) (by kernel_rfl) (by kernel_rfl) ?_;simp only[Way.line]
      repeat
       first
        | (refine aE rfl (by rfl) (by rfl) (fun _ _ _ h=>h) hS0 ?_;simp only[Act.put,Z1,Z2,Z3,Z4,Z5,Z6])
        | (refine aC (v:=?_) rfl (by rfl) (by rfl) (fun _ _ _ h=>h) hS0 (fun w' hS'=>?_) ?_;rotate_left;(focus (have rd0:=hS'.c acell;have rd1:=hS'.c bcell;clear hS';go_simp;try with_reducible rfl));simp only[Act.put,Z1,Z2,Z3,Z4,Z5,Z6])
        | (refine aD rfl (by rfl) (by rfl) hS0 ?_;simp only[Act.put,Z1,Z2,Z3,Z4,Z5,Z6])
      refine aG ?_;have HC1:=lh (HC0.out.t hS0);have HROW1:=lh (HROW0.out.chg hS0 (by simp));have HBS1:=lh (Nat.le_trans HBS0.out hS0.size);have acell:=hS0.c acell;have bcell:=hS0.c bcell;clear hS0;generalize wr.drew=w2 at *;go_wp2;have hS0:Chg [] w2 w2.drew:=(Chg.refl [] w2).drew;refine aF (Chg [] w2) [0,1,2,3,4,5,6,7,8,9,10,11,12] (Way.line [0,1,2,3,4,5,6,7,8,9,10,11,12] .done) (by kernel_rfl) (by kernel_rfl) ?_;simp only[Way.line]
      repeat
       first
        | (refine aE rfl (by rfl) (by rfl) (fun _ _ _ h=>h) hS0 ?_;simp only[Act.put,Z1,Z2,Z3,Z4,Z5,Z6])
        | (refine aC (v:=?_) rfl (by rfl) (by rfl) (fun _ _ _ h=>h) hS0 (fun w' hS'=>?_) ?_;rotate_left;(focus (have rd0:=hS'.c acell;have rd1:=hS'.c bcell;clear hS';go_simp;try with_reducible rfl));simp only[Act.put,Z1,Z2,Z3,Z4,Z5,Z6])
        | (refine aD rfl (by rfl) (by rfl) hS0 ?_;simp only[Act.put,Z1,Z2,Z3,Z4,Z5,Z6])
      refine aG ?_;have HC2:=lh (HC1.out.t hS0);have HROW2:=lh (HROW1.out.chg hS0 (by simp));have HBS2:=lh (Nat.le_trans HBS1.out hS0.size);have bcell:=hS0.c bcell;clear hS0;generalize w2.drew=w3 at *
      go_wp2_with (at_builtin;refine dS rfl _ _ rfl (B:=w.heap.size) (v:=.slice oo _ oc) rfl rfl HROW2.out IY HBS2.out hml rfl ?_;intro v6 w6 r6 c6 f6;have R6:=lh r6;have C6:=lh c6;clear r6 c6 f6)
      go_roundw
      case rel=>exact⟨(x :: l),m,_,HU.out,HV.out.tail,R6.out,lh (by rw[List.append_assoc,←aA.aCX HXY.out];exact HM.out),lh (by have:=HL.out;simp at this ⊢;omega),lh (by have:=HLL.out;simp at this ⊢;omega),HC2.out.trans C6.out (fun j hj=>Or.inr (by rw[HROW2.out.aP] at hj;exact (HROW2.out.low j hj).1))⟩
      case measure=>simp[vH]
    have byx:decide (y<x)=false:=decide_eq_false hyx;have hxe:x=y:=by omega
    have HXY:=lh hxe;clear hxy hyx hxe;go_wp2;have hS0:Chg [] wr wr.drew:=(Chg.refl [] wr).drew;refine aF (Chg [] wr) [0,1,2,3,4,5,6,7,8,9,10,11,12,13,14,15,16,17] (Way.line [0,1,2,3,4,5,6,7,8,9,10,11,12,13,14,15,16,17] .done) (by kernel_rfl) (by kernel_rfl) ?_;simp only[Way.line]
    repeat
     first
      | (refine aE rfl (by rfl) (by rfl) (fun _ _ _ h=>h) hS0 ?_;simp only[Act.put,Z1,Z2,Z3,Z4,Z5,Z6])
      | (refine aC (v:=?_) rfl (by rfl) (by rfl) (fun _ _ _ h=>h) hS0 (fun w' hS'=>?_) ?_;rotate_left;(focus (have rd0:=hS'.c acell;have rd1:=hS'.c bcell;clear hS';go_simp;try with_reducible rfl));simp only[Act.put,Z1,Z2,Z3,Z4,Z5,Z6])
      | (refine aD rfl (by rfl) (by rfl) hS0 ?_;simp only[Act.put,Z1,Z2,Z3,Z4,Z5,Z6])
    refine aG ?_;have HC1:=lh (HC0.out.t hS0);have HROW1:=lh (HROW0.out.chg hS0 (by simp));have HBS1:=lh (Nat.le_trans HBS0.out hS0.size);have acell:=hS0.c acell;have bcell:=hS0.c bcell;clear hS0;generalize wr.drew=w2 at *;go_wp2;have hS0:Chg [] w2 w2.drew:=(Chg.refl [] w2).drew;refine aF (Chg [] w2) [0,1,2,3,4,5,6,7,8,9,10,11,12] (Way.line [0,1,2,3,4,5,6,7,8,9,10,11,12] .done) (by kernel_rfl) (by kernel_rfl) ?_;simp only[Way.line]
    repeat
     first
      | (refine aE rfl (by rfl) (by rfl) (fun _ _ _ h=>h) hS0 ?_;simp only[Act.put,Z1,Z2,Z3,Z4,Z5,Z6])
      | (refine aC (v:=?_) rfl (by rfl) (by rfl) (fun _ _ _ h=>h) hS0 (fun w' hS'=>?_) ?_;rotate_left;(focus (have rd0:=hS'.c acell;have rd1:=hS'.c bcell;clear hS';go_simp;try with_reducible rfl));simp only[Act.put,Z1,Z2,Z3,Z4,Z5,Z6])
      | (refine aD rfl (by rfl) (by rfl) hS0 ?_;simp only[Act.put,Z1,Z2,Z3,Z4,Z5,Z6])
    refine aG ?_;have HC2:=lh (HC1.out.t hS0);have HROW2:=lh (HROW1.out.chg hS0 (by simp));have HBS2:=lh (Nat.le_trans HBS1.out hS0.size);have acell:=hS0.c acell;clear hS0;generalize w2.drew=w3 at *
    go_wp2_with (at_builtin;refine dS rfl _ _ rfl (B:=w.heap.size) (v:=.slice oo _ oc) rfl rfl HROW2.out IX HBS2.out hml rfl ?_;intro v6 w6 r6 c6 f6;have R6:=lh r6;have C6:=lh c6;clear r6 c6 f6)
    have HC7:=lh (HC2.out.trans C6.out (fun j hj=>Or.inr (by rw[HROW2.out.aP] at hj;exact (HROW2.out.low j hj).1)));have n1:(1:Int)≤((l.length+1:Nat):Int):=by omega
    have n2:(1:Int)≤((m.length+1:Nat):Int):=by omega
    have n3:(1:Int)≤(l.length:Int)+1:=by omega
    have n4:(1:Int)≤(m.length:Int)+1:=by omega
    have hS0:Chg [] w6 w6.drew:=(Chg.refl [] w6).drew;refine aF (Chg [] w6) [0,1,2,3,4,5] (Way.line [0,1,2,3,4,5] .done) (by kernel_rfl) (by kernel_rfl) ?_;simp only[Way.line]
    repeat
     first
      | (refine aE rfl (by rfl) (by rfl) (fun _ _ _ h=>h) hS0 ?_;simp only[Act.put,Z1,Z2,Z3,Z4,Z5,Z6])
      | (refine aC (v:=?_) rfl (by rfl) (by rfl) (fun _ _ _ h=>h) hS0 (fun w' hS'=>?_) ?_;rotate_left;(focus (skip;clear hS';go_simp;try with_reducible rfl));simp only[Act.put,Z1,Z2,Z3,Z4,Z5,Z6])
      | (refine aD rfl (by rfl) (by rfl) hS0 ?_;simp only[Act.put,Z1,Z2,Z3,Z4,Z5,Z6])
    refine aG ?_;have HC8:=lh (HC7.out.t hS0);have HROW8:=lh (R6.out.chg hS0 (by simp));clear hS0;generalize w6.drew=w9 at *;go_wp2
    go_roundw
    case rel=>exact⟨l,m,_,HU.out.tail,HV.out.tail,HROW8.out,lh (by have:=HM.out;rw[←HXY.out,aA.aEM,←List.append_assoc] at this;exact this),lh (by have:=HL.out;simp at this ⊢;omega),lh (by have:=HLL.out;simp at this ⊢;omega),HC8.out⟩
    case measure=>simp[vH];omega
end Go.Proofs.YtkacjmoamgjfpaaGreat
