/- ref04.Or (its things), ref09.Around (its things): contracts. Conditions: lists, a drawing that lie in memory and read so, of a bounded size. -/
import Derived.Test.YtkacjmoamgjfpaaGreatYxRef8P
namespace Go.Proofs.YtkacjmoamgjfpaaGreat
open Go.RowKit Go.Maps
set_option maxRecDepth 100000 in
set_option maxHeartbeats 4000000 in
theorem refOr_any (va vb:Value) (a b:List Int) (w:World) (hla:a.length≤1000000) (hlb:b.length≤1000000) (ha:IntsAt w va a) (hb:IntsAt w vb b) :
  Calls Tryz.prog 34 #[va,vb] w fun e w'=>∃ ov M,e=.returned ov∧RowAt w' w.heap.size ov M∧(∀ x∈M,x∈a∨x∈b)∧(b≠[]→M≠[])∧M.length≤a.length+b.length∧Chg [] w w':=by
 have HA:=lh ha;have HB:=lh hb;obtain⟨ao,ac,rfl,hia,-,-⟩:=ha;obtain⟨bo,bc,rfl,hib,-,-⟩:=hb;have HIA:=lh hia;have HIB:=lh hib;clear hia hib
 go_enter Tryz.func34,Tryz.ntmps34
 go_wp2
 go_loopw [5,6,7] (fun ov c d wr=>∃ (i k:Nat) (M:List Int),c=.int .i64 i∧d=.int .i64 k∧i≤a.length∧k≤b.length∧M.length≤i+k∧RowAt wr w.heap.size ov M∧Hid (∀ x∈M,x∈a∨x∈b)∧Hid (M=[]→i=0∧k=0)∧Chg [] w wr) (fun _ c d _=>a.length - (intOf c).toNat+(b.length - (intOf d).toNat))
 case atStart=>exact⟨0,0,[],rfl,rfl,Nat.zero_le _,Nat.zero_le _,Nat.le_refl _,rowNil' _ _,lh (by simp),lh (fun _=>⟨rfl,rfl⟩),Chg.refl _ _⟩
 case round =>
  obtain⟨i,k,M,rfl,rfl,hi,hk,hml,hrow,HM,HE,hc⟩:=hrel;have HROW:=lh hrow;have HC:=lh hc;have HBS:=lh (show w.heap.size≤wr.heap.size from hc.size);obtain⟨oo,oc,rfl⟩:=hrow.shape;clear hrow;by_cases hia:i<a.length
  ·have bi:decide ((i:Int)<(a.length:Int))=true:=decide_eq_true (by omega)
   obtain⟨ab,aoff,rfl,ca⟩:=IntsAt.cellAt HA.out hia;have acell:=hc.c ca;have hma:=Plain.getD_mem hia;have IX:=HIA.out _ hma;obtain⟨x,hx⟩:∃ x,a.getD i 0=x:=⟨_,rfl⟩;rw[hx] at acell hma IX;have HMX:=lh (show ∀ y∈M++[x],y∈a∨y∈b from fun y hy=>(List.mem_append.1 hy).elim (HM.out y) fun q=>Or.inl (by rw[List.mem_singleton.1 q];exact hma));clear ca hma hx;by_cases hkb:k<b.length
   ·have bk:((k:Int)==(b.length:Int))=false:=by rw[beq_eq_false_iff_ne];omega
    have bk2:decide ((k:Int)<(b.length:Int))=true:=decide_eq_true (by omega);obtain⟨bb,boff,rfl,cb⟩:=IntsAt.cellAt HB.out hkb;have bcell:=hc.c cb;have hmb:=Plain.getD_mem hkb;have IY:=HIB.out _ hmb;obtain⟨y,hy⟩:∃ y,b.getD k 0=y:=⟨_,rfl⟩;rw[hy] at bcell hmb IY;have HMY:=lh (show ∀ z∈M++[y],z∈a∨z∈b from fun z hz=>(List.mem_append.1 hz).elim (HM.out z) fun q=>Or.inr (by rw[List.mem_singleton.1 q];exact hmb));clear cb hmb hy;clear hc;by_cases hxy:x≤y
    ·have bxy:decide (x≤y)=true:=decide_eq_true hxy
     by_cases hexy:x=y
     ·have be:(x==y)=true:=by rw[beq_iff_eq];exact hexy
      clear hexy hxy;go_wp2;have hS0:Chg [] wr wr.drew:=(Chg.refl [] wr).drew;refine wp_region_way (Chg [] wr) [0,1,2,3,4,5,6,7,8,9,10,11,12,13,14,15,16,17,18,19,20] (Way.line [0,1,2,3,4,5,6,7,8,9,10,11,12,13,14,15,16,17,18,19,20] .done) (by kernel_rfl) (by kernel_rfl) ?_;simp only[Way.line]
      repeat
       first
        | (refine along_off rfl (by rfl) (by rfl) (fun _ _ _ h=>h) hS0 ?_;simp only[Act.put,Z1,Z2,Z3,Z4,Z5,Z6])
        | (refine along_read (v:=?_) rfl (by rfl) (by rfl) (fun _ _ _ h=>h) hS0 (fun w' hS'=>?_) ?_;rotate_left;(focus (have rd0:=hS'.c acell;have rd1:=hS'.c bcell;clear hS';go_simp;try with_reducible rfl));simp only[Act.put,Z1,Z2,Z3,Z4,Z5,Z6])
        | (refine along_skip rfl (by rfl) (by rfl) hS0 ?_;simp only[Act.put,Z1,Z2,Z3,Z4,Z5,Z6])
      refine along_done ?_;have HC2:=lh (HC.out.t hS0);have HROW2:=lh (HROW.out.chg hS0 (by simp));have acell:=hS0.c acell;have bcell:=hS0.c bcell;have HBS2:=lh (Nat.le_trans HBS.out hS0.size);clear hS0;generalize wr.drew=wq at *;go_wp2;have hS0:Chg [] wq wq.drew:=(Chg.refl [] wq).drew;refine wp_region_way (Chg [] wq) [0,1,2,3,4,5,6,7,8,9,10,11,12,13,14] (Way.line [0,1,2,3,4,5,6,7,8,9,10,11,12,13,14] .done) (by kernel_rfl) (by kernel_rfl) ?_;simp only[Way.line]
      repeat
       first
        | (refine along_off rfl (by rfl) (by rfl) (fun _ _ _ h=>h) hS0 ?_;simp only[Act.put,Z1,Z2,Z3,Z4,Z5,Z6])
        | (refine along_read (v:=?_) rfl (by rfl) (by rfl) (fun _ _ _ h=>h) hS0 (fun w' hS'=>?_) ?_;rotate_left;(focus (have rd0:=hS'.c acell;have rd1:=hS'.c bcell;clear hS';go_simp;try with_reducible rfl));simp only[Act.put,Z1,Z2,Z3,Z4,Z5,Z6])
        | (refine along_skip rfl (by rfl) (by rfl) hS0 ?_;simp only[Act.put,Z1,Z2,Z3,Z4,Z5,Z6])
      refine along_done ?_;have HC3:=lh (HC2.out.t hS0);have HROW3:=lh (HROW2.out.chg hS0 (by simp));have acell:=hS0.c acell;have HBS3:=lh (Nat.le_trans HBS2.out hS0.size);clear hS0 bcell;generalize wq.drew=wz at *
      go_wp2_with (at_builtin;refine wl_push rfl _ _ rfl (B:=w.heap.size) (v:=.slice oo _ oc) rfl rfl HROW3.out IX HBS3.out (by omega) rfl ?_;intro v6 w6 r6 c6 f6;have R6:=lh r6;have C6:=lh c6;clear r6 c6 f6)
      go_roundw
      case rel=>exact⟨i+1,k+1,M++[x],by go_num,by go_num,by omega,by omega,by simp;omega,R6.out,HMX,lh (by simp),HC3.out.trans C6.out (fun j hj=>Or.inr (by rw[HROW3.out.foot] at hj;exact (HROW3.out.low j hj).1))⟩
      case measure=>simp[intOf];omega
     have be:(x==y)=false:=by rw[beq_eq_false_iff_ne];exact hexy
     clear hexy hxy;go_wp2;have hS0:Chg [] wr wr.drew:=(Chg.refl [] wr).drew;refine wp_region_way (Chg [] wr) [0,1,2,3,4,5,6,7,8,9,10,11,12,13,14,15,16,17,18,19,20] (Way.line [0,1,2,3,4,5,6,7,8,9,10,11,12,13,14,15,16,17,18,19,20] .done) (by kernel_rfl) (by kernel_rfl) ?_;simp only[Way.line]
     repeat
      first
       | (refine along_off rfl (by rfl) (by rfl) (fun _ _ _ h=>h) hS0 ?_;simp only[Act.put,Z1,Z2,Z3,Z4,Z5,Z6])
       | (refine along_read (v:=?_) rfl (by rfl) (by rfl) (fun _ _ _ h=>h) hS0 (fun w' hS'=>?_) ?_;rotate_left;(focus (have rd0:=hS'.c acell;have rd1:=hS'.c bcell;clear hS';go_simp;try with_reducible rfl));simp only[Act.put,Z1,Z2,Z3,Z4,Z5,Z6])
       | (refine along_skip rfl (by rfl) (by rfl) hS0 ?_;simp only[Act.put,Z1,Z2,Z3,Z4,Z5,Z6])
     refine along_done ?_;have HC2:=lh (HC.out.t hS0);have HROW2:=lh (HROW.out.chg hS0 (by simp));have acell:=hS0.c acell;have bcell:=hS0.c bcell;have HBS2:=lh (Nat.le_trans HBS.out hS0.size);clear hS0;generalize wr.drew=wq at *;go_wp2;have hS0:Chg [] wq wq.drew:=(Chg.refl [] wq).drew;refine wp_region_way (Chg [] wq) [0,1,2,3,4,5,6,7,8,9,10,11,12,13,14] (Way.line [0,1,2,3,4,5,6,7,8,9,10,11,12,13,14] .done) (by kernel_rfl) (by kernel_rfl) ?_;simp only[Way.line]
     repeat
      first
       | (refine along_off rfl (by rfl) (by rfl) (fun _ _ _ h=>h) hS0 ?_;simp only[Act.put,Z1,Z2,Z3,Z4,Z5,Z6])
       | (refine along_read (v:=?_) rfl (by rfl) (by rfl) (fun _ _ _ h=>h) hS0 (fun w' hS'=>?_) ?_;rotate_left;(focus (have rd0:=hS'.c acell;have rd1:=hS'.c bcell;clear hS';go_simp;try with_reducible rfl));simp only[Act.put,Z1,Z2,Z3,Z4,Z5,Z6])
       | (refine along_skip rfl (by rfl) (by rfl) hS0 ?_;simp only[Act.put,Z1,Z2,Z3,Z4,Z5,Z6])
     refine along_done ?_;have HC3:=lh (HC2.out.t hS0);have HROW3:=lh (HROW2.out.chg hS0 (by simp));have acell:=hS0.c acell;have HBS3:=lh (Nat.le_trans HBS2.out hS0.size);clear hS0 bcell;generalize wq.drew=wz at *
     go_wp2_with (at_builtin;refine wl_push rfl _ _ rfl (B:=w.heap.size) (v:=.slice oo _ oc) rfl rfl HROW3.out IX HBS3.out (by omega) rfl ?_;intro v6 w6 r6 c6 f6;have R6:=lh r6;have C6:=lh c6;clear r6 c6 f6)
     go_roundw
     case rel=>exact⟨i+1,k,M++[x],by go_num,by go_num,by omega,by omega,by simp;omega,R6.out,HMX,lh (by simp),HC3.out.trans C6.out (fun j hj=>Or.inr (by rw[HROW3.out.foot] at hj;exact (HROW3.out.low j hj).1))⟩
     case measure=>simp[intOf];omega
    have bxy:decide (x≤y)=false:=decide_eq_false hxy;clear hxy;go_wp2;have hS0:Chg [] wr wr.drew:=(Chg.refl [] wr).drew;refine wp_region_way (Chg [] wr) [0,1,2,3,4,5,6,7,8,9,10,11,12,13,14,15,16,17,18,19,20] (Way.line [0,1,2,3,4,5,6,7,8,9,10,11,12,13,14,15,16,17,18,19,20] .done) (by kernel_rfl) (by kernel_rfl) ?_;simp only[Way.line]
    repeat
     first
      | (refine along_off rfl (by rfl) (by rfl) (fun _ _ _ h=>h) hS0 ?_;simp only[Act.put,Z1,Z2,Z3,Z4,Z5,Z6])
      | (refine along_read (v:=?_) rfl (by rfl) (by rfl) (fun _ _ _ h=>h) hS0 (fun w' hS'=>?_) ?_;rotate_left;(focus (have rd0:=hS'.c acell;have rd1:=hS'.c bcell;clear hS';go_simp;try with_reducible rfl));simp only[Act.put,Z1,Z2,Z3,Z4,Z5,Z6])
      | (refine along_skip rfl (by rfl) (by rfl) hS0 ?_;simp only[Act.put,Z1,Z2,Z3,Z4,Z5,Z6])
    refine along_done ?_;have HC2:=lh (HC.out.t hS0);have HROW2:=lh (HROW.out.chg hS0 (by simp));have acell:=hS0.c acell;have bcell:=hS0.c bcell;have HBS2:=lh (Nat.le_trans HBS.out hS0.size);clear hS0;generalize wr.drew=wq at *;clear acell
    go_wp2_with (at_builtin;refine wl_push rfl _ _ rfl (B:=w.heap.size) (v:=.slice oo _ oc) rfl rfl HROW2.out IY HBS2.out (by omega) rfl ?_;intro v6 w6 r6 c6 f6;have R6:=lh r6;have C6:=lh c6;clear r6 c6 f6)
    go_roundw
    case rel=>exact⟨i,k+1,M++[y],by go_num,by go_num,by omega,by omega,by simp;omega,R6.out,HMY,lh (by simp),HC2.out.trans C6.out (fun j hj=>Or.inr (by rw[HROW2.out.foot] at hj;exact (HROW2.out.low j hj).1))⟩
    case measure=>simp[intOf];omega
   obtain rfl:k=b.length:=by omega
   have bk:((b.length:Int)==(b.length:Int))=true:=by simp
   have bk2:decide ((b.length:Int)<(b.length:Int))=false:=decide_eq_false (by omega);clear hc;go_wp2;have hS0:Chg [] wr wr.drew:=(Chg.refl [] wr).drew;refine wp_region_way (Chg [] wr) [0,1,2,3,4,5,6,7,8,9,10,11,12,13,14,15,16,17,18,19,20] (Way.line [0,1,2,3,4,5,6,7,8,9,10,11,12,13,14,15,16,17,18,19,20] .done) (by kernel_rfl) (by kernel_rfl) ?_;simp only[Way.line]
   repeat
    first
     | (refine along_off rfl (by rfl) (by rfl) (fun _ _ _ h=>h) hS0 ?_;simp only[Act.put,Z1,Z2,Z3,Z4,Z5,Z6])
     | (refine along_read (v:=?_) rfl (by rfl) (by rfl) (fun _ _ _ h=>h) hS0 (fun w' hS'=>?_) ?_;rotate_left;(focus (have rd0:=hS'.c acell;clear hS';go_simp;try with_reducible rfl));simp only[Act.put,Z1,Z2,Z3,Z4,Z5,Z6])
     | (refine along_skip rfl (by rfl) (by rfl) hS0 ?_;simp only[Act.put,Z1,Z2,Z3,Z4,Z5,Z6])
   refine along_done ?_;have HC2:=lh (HC.out.t hS0);have HROW2:=lh (HROW.out.chg hS0 (by simp));have acell:=hS0.c acell;have HBS2:=lh (Nat.le_trans HBS.out hS0.size);clear hS0;generalize wr.drew=wq at *;go_wp2;have hS0:Chg [] wq wq.drew:=(Chg.refl [] wq).drew;refine wp_region_way (Chg [] wq) [0,1,2,3,4,5,6,7,8,9,10,11,12,13,14] (Way.line [0,1,2,3,4,5,6,7,8,9,10,11,12,13,14] .done) (by kernel_rfl) (by kernel_rfl) ?_;simp only[Way.line]
   repeat
    first
     | (refine along_off rfl (by rfl) (by rfl) (fun _ _ _ h=>h) hS0 ?_;simp only[Act.put,Z1,Z2,Z3,Z4,Z5,Z6])
     | (refine along_read (v:=?_) rfl (by rfl) (by rfl) (fun _ _ _ h=>h) hS0 (fun w' hS'=>?_) ?_;rotate_left;(focus (have rd0:=hS'.c acell;clear hS';go_simp;try with_reducible rfl));simp only[Act.put,Z1,Z2,Z3,Z4,Z5,Z6])
     | (refine along_skip rfl (by rfl) (by rfl) hS0 ?_;simp only[Act.put,Z1,Z2,Z3,Z4,Z5,Z6])
   refine along_done ?_;have HC3:=lh (HC2.out.t hS0);have HROW3:=lh (HROW2.out.chg hS0 (by simp));have acell:=hS0.c acell;have HBS3:=lh (Nat.le_trans HBS2.out hS0.size);clear hS0;generalize wq.drew=wz at *
   go_wp2_with (at_builtin;refine wl_push rfl _ _ rfl (B:=w.heap.size) (v:=.slice oo _ oc) rfl rfl HROW3.out IX HBS3.out (by omega) rfl ?_;intro v6 w6 r6 c6 f6;have R6:=lh r6;have C6:=lh c6;clear r6 c6 f6)
   go_roundw
   case rel=>exact⟨i+1,b.length,M++[x],by go_num,by go_num,by omega,by omega,by simp;omega,R6.out,HMX,lh (by simp),HC3.out.trans C6.out (fun j hj=>Or.inr (by rw[HROW3.out.foot] at hj;exact (HROW3.out.low j hj).1))⟩
   case measure=>simp[intOf];omega
  obtain rfl:i=a.length:=by omega
  have bi:decide ((a.length:Int)<(a.length:Int))=false:=decide_eq_false (by omega);by_cases hkb:k<b.length
  ·have bk:((k:Int)==(b.length:Int))=false:=by rw[beq_eq_false_iff_ne];omega
   have bk2:decide ((k:Int)<(b.length:Int))=true:=decide_eq_true (by omega);obtain⟨bb,boff,rfl,cb⟩:=IntsAt.cellAt HB.out hkb;have bcell:=hc.c cb;have hmb:=Plain.getD_mem hkb;have IY:=HIB.out _ hmb;obtain⟨y,hy⟩:∃ y,b.getD k 0=y:=⟨_,rfl⟩;rw[hy] at bcell hmb IY;have HMY:=lh (show ∀ z∈M++[y],z∈a∨z∈b from fun z hz=>(List.mem_append.1 hz).elim (HM.out z) fun q=>Or.inr (by rw[List.mem_singleton.1 q];exact hmb));clear cb hmb hy;clear hc;go_wp2;have hS0:Chg [] wr wr.drew:=(Chg.refl [] wr).drew;refine wp_region_way (Chg [] wr) [0,1,2,3,4,5,6,7,8,9,10,11,12,13,14,15,16,17,18,19,20] (Way.line [0,1,2,3,4,5,6,7,8,9,10,11,12,13,14,15,16,17,18,19,20] .done) (by kernel_rfl) (by kernel_rfl) ?_;simp only[Way.line]
   repeat
    first
     | (refine along_off rfl (by rfl) (by rfl) (fun _ _ _ h=>h) hS0 ?_;simp only[Act.put,Z1,Z2,Z3,Z4,Z5,Z6])
     | (refine along_read (v:=?_) rfl (by rfl) (by rfl) (fun _ _ _ h=>h) hS0 (fun w' hS'=>?_) ?_;rotate_left;(focus (have rd0:=hS'.c bcell;clear hS';go_simp;try with_reducible rfl));simp only[Act.put,Z1,Z2,Z3,Z4,Z5,Z6])
     | (refine along_skip rfl (by rfl) (by rfl) hS0 ?_;simp only[Act.put,Z1,Z2,Z3,Z4,Z5,Z6])
   refine along_done ?_;have HC2:=lh (HC.out.t hS0);have HROW2:=lh (HROW.out.chg hS0 (by simp));have bcell:=hS0.c bcell;have HBS2:=lh (Nat.le_trans HBS.out hS0.size);clear hS0;generalize wr.drew=wq at *
   go_wp2_with (at_builtin;refine wl_push rfl _ _ rfl (B:=w.heap.size) (v:=.slice oo _ oc) rfl rfl HROW2.out IY HBS2.out (by omega) rfl ?_;intro v6 w6 r6 c6 f6;have R6:=lh r6;have C6:=lh c6;clear r6 c6 f6)
   go_roundw
   case rel=>exact⟨a.length,k+1,M++[y],by go_num,by go_num,by omega,by omega,by simp;omega,R6.out,HMY,lh (by simp),HC2.out.trans C6.out (fun j hj=>Or.inr (by rw[HROW2.out.foot] at hj;exact (HROW2.out.low j hj).1))⟩
   case measure=>simp[intOf];omega
  obtain rfl:k=b.length:=by omega
  have bk2:decide ((b.length:Int)<(b.length:Int))=false:=decide_eq_false (by omega);clear hc;have HNE:=lh (fun (h:b≠[]) (q:M=[])=>(by have:=(HE.out q).2;exact h (List.length_eq_zero_iff.1 this):False));go_wp2;go_ret;exact⟨_,M,rfl,HROW.out,HM.out,HNE.out,hml,HC.out⟩
end Go.Proofs.YtkacjmoamgjfpaaGreat
