/- ref02.Turned, First; ref06.First, Equal: contracts. Conditions: lists that lie in memory and read so, of a bounded size. -/
import Derived.Test.YtkacjmoamgjfpaaGreatYxRefS
namespace Go.Proofs.YtkacjmoamgjfpaaGreat
open Go.RowKit Go.Maps
namespace Plain
theorem turned_at {l:List Int} {a k:Nat} (ha:a<l.length) (hk:k<l.length):(l.drop a++l.take a).getD k 0=l.getD ((a+k) % l.length) 0:=by
 unfold List.getD;by_cases h:k<l.length - a
 ·rw[List.getElem?_append_left (by simp;omega),List.getElem?_drop,Nat.mod_eq_of_lt (by omega)]
 rw[List.getElem?_append_right (by simp;omega),List.length_drop,List.getElem?_take,if_pos (by omega)];rw[show (a+k) % l.length=k - (l.length - a) by rw[Nat.mod_eq_sub_mod (by omega),Nat.mod_eq_of_lt (by omega)];omega]
theorem turned_len {l:List Int} {a:Nat} (ha:a≤l.length):(l.drop a++l.take a).length=l.length:=by simp;omega
end Plain
set_option maxRecDepth 100000 in
set_option maxHeartbeats 2000000 in
theorem refTurned_any (v:Value) (l:List Int) (a:Nat) (w:World) (ha:a<l.length∨(a=0∧l=[])) (hl:l.length<1000000000) (h:IntsAt w v l) :
  Calls Tryz.prog 136 #[v,.int .i64 a] w fun e w'=>∃ ov,e=.returned ov∧RowAt w' w.heap.size ov (l.drop a++l.take a)∧Chg [] w w':=by
 have H:=lh h;have htl:(l.drop a++l.take a).length=l.length:=Plain.turned_len (by rcases ha with q | ⟨q,-⟩ <;> omega);have HTA:=lh (fun k (hk:k<l.length)=>Plain.turned_at (l:=l) (a:=a) (k:=k) (by rcases ha with q | ⟨q,r⟩;exact q;rw[r] at hk;simp at hk) hk);have hal:a≤l.length:=by rcases ha with q | ⟨q,-⟩ <;> omega
 obtain⟨M,hM⟩:∃ M,l.drop a++l.take a=M:=⟨_,rfl⟩;rw[hM] at htl HTA ⊢;have HTL:=lh htl;obtain⟨ao,cap,rfl,hsm,hm,-⟩:=h;have HSM:=lh hsm;clear ha hM htl hsm
 go_enter Tryz.func136,Tryz.ntmps136
 go_wp2
 go_loopw [5,6] (fun ov c wr=>∃ k:Nat,k≤l.length∧c=.int .i64 k∧RowAt wr w.heap.size ov (M.take k)∧Chg [] w wr) (fun _ c _=>l.length - (intOf c).toNat)
 case atStart=>exact⟨0,Nat.zero_le _,rfl,by simpa using rowNil' _ _,Chg.refl _ _⟩
 case round =>
  obtain⟨k,hk,rfl,hrow,hc⟩:=hrel;have HROW:=lh hrow;obtain⟨oo,oc,rfl⟩:=hrow.shape;have HC:=lh hc;by_cases hlt:k<l.length
  ·have hml:(a+k) % l.length<l.length:=Nat.mod_lt _ (by omega)
   obtain⟨b,off,rfl,cell⟩:=IntsAt.cellAt (H.out.fresh hc) hml;have HTK:=lh (show M.take (k+1)=M.take k++[l.getD ((a+k) % l.length) 0] by rw[←HTA.out k hlt];exact Plain.take_snoc (by have:=HTL.out;omega));have HIX:=lh (HSM.out (l.getD ((a+k) % l.length) 0) (by simp[List.getD,hml]));obtain⟨j,hj⟩:∃ j,(a+k) % l.length=j:=⟨_,rfl⟩;have q1:IntKind.i64.wrap ((a:Int)+(k:Int))=(a:Int)+(k:Int):=IntWalk.i64_in _ (by omega);have q2:Int.tmod ((a:Int)+(k:Int)) (l.length:Int)=(j:Int):=by rw[Int.tmod_eq_emod_of_nonneg (by omega),show (a:Int)+(k:Int)=((a+k:Nat):Int) by omega,←hj];omega
   have q3:((l.length:Int)==0)=false:=by rw[beq_eq_false_iff_ne];omega
   rw[hj] at hml cell HTK HIX;obtain⟨z,hz⟩:∃ z,l.getD j 0=z:=⟨_,rfl⟩;rw[hz] at cell HTK HIX;have HB:=lh hc.size;have hll:(M.take k).length<4294967290:=by simp;omega
   obtain⟨L,hL⟩:∃ L,M.take k=L:=⟨_,rfl⟩;rw[hL] at HROW HTK hll ⊢;clear hrow hc hj hz hL
   go_wp2_with (at_builtin;refine wl_push rfl _ _ rfl (B:=w.heap.size) (v:=.slice oo _ oc) rfl rfl HROW.out HIX.out HB.out hll rfl ?_;intro v9 w9 r9 c9 f9;have R9:=lh r9;have C9:=lh c9;clear r9 c9 f9)
   go_roundw
   case rel=>exact⟨k+1,by omega,by go_num,by rw[HTK.out];exact R9.out,HC.out.trans C9.out (fun j hj=>Or.inr (by rw[HROW.out.foot] at hj;exact (HROW.out.low j hj).1))⟩
   case measure=>simp[intOf];omega
  have e:k=l.length:=by omega
  subst e;rw[←HTL.out,List.take_length] at HROW;rw[List.take_of_length_le (by rw[HTL.out];omega)];clear hrow hc;obtain⟨n,hn⟩:∃ n,M.length=n:=⟨_,rfl⟩;rw[hn] at HROW ⊢;clear hn;go_wp2;go_ret;exact⟨_,rfl,HROW.out,HC.out⟩
set_option maxRecDepth 100000 in
set_option maxHeartbeats 2000000 in
theorem refFirst_any (v:Value) (l:List Int) (w:World) (hl:l.length<1000000000) (h:IntsAt w v l) :
  Calls Tryz.prog 85 #[v] w fun e w'=>∃ ov,e=.returned ov∧RowAt w' w.heap.size ov (Plain.first l)∧Chg [] w w':=by
 have H:=lh h;obtain⟨ao,cap,rfl,hsm,hm,-⟩:=h;clear hsm
 go_enter Tryz.func85,Tryz.ntmps85
 go_wp2
 go_loopw [3,4] (fun m c wr=>∃ k:Nat,k≤l.length∧c=.int .i64 k∧m=.int .i64 (Plain.lst l k:Nat)∧Chg [] w wr) (fun _ c _=>l.length - (intOf c).toNat)
 case atStart=>exact⟨0,Nat.zero_le _,rfl,rfl,Chg.refl _ _⟩
 case round =>
  obtain⟨k,hk,rfl,rfl,hc⟩:=hrel;have HC:=lh hc;by_cases hlt:k<l.length
  ·have hll:=Plain.lst_lt (l:=l) (by omega) k hk
   obtain⟨b,off,rfl,ck⟩:=IntsAt.cellAt (H.out.fresh hc) hlt;obtain⟨b',off',e,cm⟩:=IntsAt.cellAt (H.out.fresh hc) hll;obtain⟨rfl,rfl⟩:b=b'∧off=off':=by simpa using e
   have HLS:=lh (show Plain.lst l (k+1)=if l.getD k 0<l.getD (Plain.lst l k) 0 then k else Plain.lst l k from rfl);obtain⟨m,hm2⟩:∃ m,Plain.lst l k=m:=⟨_,rfl⟩;rw[hm2] at hll cm HLS ⊢;obtain⟨x,hx⟩:∃ x,l.getD k 0=x:=⟨_,rfl⟩;obtain⟨y,hy⟩:∃ y,l.getD m 0=y:=⟨_,rfl⟩;rw[hx] at ck HLS;rw[hy] at cm HLS;clear hc e hm2 hx hy;go_wp2;have hS0:Chg [] wr wr.drew:=(Chg.refl [] wr).drew;refine wp_region_way (Chg [] wr) [0,1,2,3,4,5,6,7,8] (Way.line [0,1,2,3,4,5,6,7,8] .done) (by kernel_rfl) (by kernel_rfl) ?_;simp only[Way.line]
   repeat
    first
     | (refine along_off rfl (by rfl) (by rfl) (fun _ _ _ h=>h) hS0 ?_;simp only[Act.put,Z1,Z2,Z3,Z4,Z5,Z6])
     | (refine along_read (v:=?_) rfl (by rfl) (by rfl) (fun _ _ _ h=>h) hS0 (fun w' hS'=>?_) ?_;rotate_left;(focus (have rd0:=hS'.c ck;have rd1:=hS'.c cm;clear hS';go_simp;try with_reducible rfl));simp only[Act.put,Z1,Z2,Z3,Z4,Z5,Z6])
     | (refine along_skip rfl (by rfl) (by rfl) hS0 ?_;simp only[Act.put,Z1,Z2,Z3,Z4,Z5,Z6])
   refine along_done ?_;have HCD:=lh (HC.out.t hS0);clear hS0 ck cm;by_cases q:x<y
   ·have b1:decide (x<y)=true:=decide_eq_true q
    have HE:=lh (HLS.out.trans (if_pos q));clear b1;go_wp2
    go_roundw
    case rel=>exact⟨k+1,by omega,by go_num,by rw[HE.out],HCD.out⟩
    case measure=>simp[intOf];omega
   have b1:decide (x<y)=false:=decide_eq_false q;have HE:=lh (HLS.out.trans (if_neg q));clear b1;go_wp2
   go_roundw
   case rel=>exact⟨k+1,by omega,by go_num,by rw[HE.out],HCD.out⟩
   case measure=>simp[intOf];omega
  have e:k=l.length:=by omega
  subst e;have hm0:Plain.lst l l.length<l.length∨(Plain.lst l l.length=0∧l=[]):=by
   rcases Nat.eq_zero_or_pos l.length with q | q
   ·have:l=[]:=List.length_eq_zero_iff.1 q
    subst this;exact Or.inr ⟨rfl,rfl⟩
   exact Or.inl (Plain.lst_lt q _ (Nat.le_refl _))
  have HF:=lh (show Plain.first l=l.drop (Plain.lst l l.length)++l.take (Plain.lst l l.length) from rfl);have HB:=lh hc.size;obtain⟨m,hm2⟩:∃ m,Plain.lst l l.length=m:=⟨_,rfl⟩;rw[hm2] at hm0 HF ⊢;have HM0:=lh hm0;clear hc hm2 hm0
  go_wp2_with fail
  refine (refTurned_any _ l m _ HM0.out hl (H.out.fresh HC.out)).mono ?_;rintro e w2 ⟨ov,rfl,hrow,hc2⟩;obtain⟨oo,oc,rfl⟩:=hrow.shape;have HR:=lh (hrow.base HB.out);have HCF:=lh (HC.out.t hc2);obtain⟨n,hn⟩:∃ n,(l.drop m++l.take m).length=n:=⟨_,rfl⟩;rw[hn] at HR ⊢;clear hrow hc2 hn;go_wp2;go_ret;exact⟨_,rfl,by rw[HF.out];exact HR.out,HCF.out⟩
set_option maxRecDepth 100000 in
set_option maxHeartbeats 2000000 in
theorem refFirsts_any (vt:Value) (turn:List (List Int)) (w:World) (hTL:turn.length<1000000000) (htr:∀ i,(turn.getD i []).length<1000000000) (h:RowsAt w vt turn) :
  Calls Tryz.prog 36 #[vt] w fun e w'=>∃ ov vs,e=.returned ov∧RowsOwn w' w.heap.size ov vs (turn.map Plain.first)∧RowsAt w' ov (turn.map Plain.first)∧Chg [] w w':=by
 have HT:=lh h;have HTR:=lh htr;obtain⟨tno,tc,rfl,htm,-⟩:=h;clear htr
 go_enter Tryz.func36,Tryz.ntmps36
 go_wp2
 go_loopw [3,4] (fun ov c wr=>∃ (k:Nat) (vs:List Value),k≤turn.length∧c=.int .i64 k∧RowsOwn wr w.heap.size ov vs ((turn.take k).map Plain.first)∧Hid (∀ l∈(turn.take k).map Plain.first,(∀ x∈l,I64 x)∧l.length<4294967296)∧Chg [] w wr) (fun _ c _=>turn.length - (intOf c).toNat)
 case atStart=>exact⟨0,[],Nat.zero_le _,rfl,by simpa using RowsOwn.nil _ _,lh (by simp),Chg.refl _ _⟩
 case round =>
  obtain⟨k,vs,hk,rfl,hro,hsm,hc⟩:=hrel;have HRO:=lh hro;obtain⟨oo,oc,rfl⟩:=owns_shape hro.out;have hvl:vs.length=k:=by rw[hro.len];simp;omega
  have HC:=lh hc;by_cases hlt:k<turn.length
  ·obtain⟨tb,toff,uo,uc,rfl,tcell,hrow⟩:=(HT.out.fresh hc).row hlt
   have HMS:=lh (Plain.map_take_snoc (f:=Plain.first) hlt);have hTl:=HTR.out k;obtain⟨T,hT⟩:∃ T,turn.getD k []=T:=⟨_,rfl⟩;rw[hT] at hrow tcell HMS hTl;have HROW:=lh hrow;have HB:=lh hc.size;have HVL:=lh hvl;obtain⟨n,hn⟩:∃ n,vs.length=n:=⟨_,rfl⟩;have hnn:n<1000000000:=by omega
   have HN:=lh hn;rw[hn];clear hro hrow hc hT hvl hn
   go_wp2_with fail
   refine (refFirst_any _ T _ hTl HROW.out).mono ?_;rintro e w3 ⟨v',rfl,hrv,hc3⟩;obtain⟨vo,vc,rfl⟩:=hrv.shape;have HRV:=lh hrv;have HC3:=lh (HC.out.t hc3);have HRO3:=lh (HRO.out.chg hc3 (by simp) (by simp));have HX:=lh (row_below HRO.out);obtain⟨g5,q5,w5,hr5,hro5,hc5,-⟩:=run_row HRO3.out (by have:=HC3.out.size;omega) HRV.out HB.out HX.out (by have:=HN.out;omega) (Or.inl rfl) 30;rw[HN.out] at hr5 hro5 hc5;have HRO5:=lh hro5;have HC5:=lh (HC3.out.trans hc5 (fun j hj=>Or.inr (by have:=HRO3.out.out.lt j (by rw[HN.out];simpa using hj);exact this.1)));have HS5:=lh (show ∀ l∈(turn.take (k+1)).map Plain.first,(∀ x∈l,I64 x)∧l.length<4294967296 from fun l hl=>by
    rw[HMS.out,List.mem_append] at hl;rcases hl with q | q
    ·exact hsm.out l q
    rw[List.mem_singleton.1 q];exact HRV.out.2)
   clear tcell hrv hc3 hro5 hc5
   go_wp2_with (at_builtin;refine wl_apprun rfl (.tmp 11) (.tmp 17) 30 rfl rfl rfl hr5 ?_)
   go_roundw
   case rel=>exact⟨k+1,_,by omega,by go_num,by rw[HMS.out];exact HRO5.out,HS5,HC5.out⟩
   case measure=>simp[intOf];omega
  have e:k=turn.length:=by omega
  subst e;rw[List.take_length] at HRO hsm;have HRD:=lh (HRO.out.read hsm.out);clear hro hc;obtain⟨TT,hTT⟩:∃ TT,turn.map Plain.first=TT:=⟨_,rfl⟩;have HTT:=lh hTT;rw[hTT] at HRO HRD;clear hTT;have HVL:=lh hvl;clear hvl;obtain⟨n,hn⟩:∃ n,vs.length=n:=⟨_,rfl⟩;rw[hn] at HRO HRD ⊢;clear hn;go_wp2;go_ret;exact⟨_,vs,rfl,by rw[HTT.out];exact HRO.out,by rw[HTT.out];exact HRD.out,HC.out⟩
theorem equals_step {a b:List (List Int)} (hl:a.length=b.length):(List.range a.length).all (fun i=>decide (a.getD i []=b.getD i []))=decide (a=b):=by
 by_cases h:a=b
 ·subst h
  rw[decide_eq_true rfl,List.all_eq_true];simp
 rw[decide_eq_false h,List.all_eq_false];refine Classical.byContradiction fun q=>h (List.ext_getElem hl fun i h1 h2=>?_);refine Classical.byContradiction fun e=>q ⟨i,List.mem_range.2 h1,?_⟩;simpa[List.getD,h1,h2] using e
set_option maxRecDepth 100000 in
set_option maxHeartbeats 2000000 in
theorem refEquals_any (va vb:Value) (a b:List (List Int)) (w:World) (ha:RowsAt w va a) (hb:RowsAt w vb b) :
  Calls Tryz.prog 35 #[va,vb] w fun e w'=>e=.returned (.bool (decide (a=b)))∧Chg [] w w':=by
 have HA:=lh ha;have HB:=lh hb;obtain⟨ao,ac,rfl,ham,-⟩:=ha;obtain⟨bo,bc,rfl,hbm,-⟩:=hb;by_cases hl:a.length=b.length
 ·have HE:=lh (equals_step hl)
  have HL:=lh hl;have hb0:((a.length:Int) != (b.length:Int))=false:=by rw[hl];simp
  clear hl
  go_enter Tryz.func35,Tryz.ntmps35
  go_wp2
  go_loopw [5] (fun c wr=>∃ k:Nat,k≤a.length∧c=.int .i64 k∧Hid ((List.range k).all (fun i=>decide (a.getD i []=b.getD i []))=true)∧Chg [] w wr) (fun c _=>a.length - (intOf c).toNat)
  case atStart=>exact⟨0,Nat.zero_le _,rfl,rfl,Chg.refl _ _⟩
  case round =>
   obtain⟨k,hk,rfl,hall,hc⟩:=hrel;have HC:=lh hc;by_cases hlt:k<a.length
   ·have hkb:k<b.length:=by have:=HL.out;omega
    obtain⟨g1,o1,u1,c1,rfl,m1,r1⟩:=(HA.out.fresh hc).row hlt;obtain⟨g2,o2,u2,c2,rfl,m2,r2⟩:=(HB.out.fresh hc).row hkb;have HF:=lh (fun h=>Plain.all_range_false (p:=fun i=>decide (a.getD i []=b.getD i [])) hlt h);have HS:=lh (Plain.all_range_succ (fun i=>decide (a.getD i []=b.getD i [])) k);obtain⟨x,hx⟩:∃ x,a.getD k []=x:=⟨_,rfl⟩;obtain⟨y,hy⟩:∃ y,b.getD k []=y:=⟨_,rfl⟩;rw[hx] at m1 r1;rw[hy] at m2 r2;have HX:=lh hx;have HY:=lh hy;have R1:=lh r1;have R2:=lh r2;clear hc hx hy r1 r2;go_wp2;have hS0:Chg [] wr wr.drew:=(Chg.refl [] wr).drew;refine wp_region_way (Chg [] wr) [0,1,2,3,4,5,6,7,9] (Way.line [0,1,2,3,4,5,6,7,8,9] .done) (by kernel_rfl) (by kernel_rfl) ?_;simp only[Way.line]
    repeat
     first
      | (refine along_off rfl (by rfl) (by rfl) (fun _ _ _ h=>h) hS0 ?_;simp only[Act.put,Z1,Z2,Z3,Z4,Z5,Z6])
      | (refine along_read (v:=?_) rfl (by rfl) (by rfl) (fun _ _ _ h=>h) hS0 (fun w' hS'=>?_) ?_;rotate_left;(focus (have rd0:=hS'.c m1;have rd1:=hS'.c m2;clear hS';go_simp;try with_reducible rfl));simp only[Act.put,Z1,Z2,Z3,Z4,Z5,Z6])
      | (refine along_skip rfl (by rfl) (by rfl) hS0 ?_;simp only[Act.put,Z1,Z2,Z3,Z4,Z5,Z6])
    refine along_op rfl (by rfl) (by rfl) (fun K hK=>?_);go_simp;refine (equal_any _ _ x y _ (R1.out.fresh hS0) (R2.out.fresh hS0)).mono ?_;rintro e w3 ⟨rfl,hcx⟩;have hS1:=hS0.t hcx;clear hS0 hcx;have hS0:=hS1;clear hS1;refine hK.out _ _ (fun _=>hS0) ?_;clear hK K
    try simp only[Act.put,Z1,Z2,Z3,Z4,Z5,Z6]
    repeat
     first
      | (refine along_off rfl (by rfl) (by rfl) (fun _ _ _ h=>h) hS0 ?_;simp only[Act.put,Z1,Z2,Z3,Z4,Z5,Z6])
      | (refine along_read (v:=?_) rfl (by rfl) (by rfl) (fun _ _ _ h=>h) hS0 (fun w' hS'=>?_) ?_;rotate_left;(focus (have rd0:=hS'.c m1;have rd1:=hS'.c m2;clear hS';go_simp;try with_reducible rfl));simp only[Act.put,Z1,Z2,Z3,Z4,Z5,Z6])
      | (refine along_skip rfl (by rfl) (by rfl) hS0 ?_;simp only[Act.put,Z1,Z2,Z3,Z4,Z5,Z6])
    refine along_done ?_;have HC3:=lh (HC.out.t hS0);clear hS0 m1 m2;by_cases q:x=y
    ·rw[decide_eq_true q]
     have HK2:=lh (show (List.range (k+1)).all (fun i=>decide (a.getD i []=b.getD i []))=true by rw[HS.out,hall.out,HX.out,HY.out];simp[q]);clear q;go_wp2
     go_roundw
     case rel=>exact⟨k+1,by omega,by go_num,HK2,HC3.out⟩
     case measure=>simp[intOf];omega
    rw[decide_eq_false q];have HE2:=lh (show decide (a=b)=false by rw[←HE.out];exact HF.out (by rw[HX.out,HY.out];exact decide_eq_false q));clear q;go_wp2;go_ret;exact⟨ret_bool HE2.out.symm,HC3.out⟩
   have e:k=a.length:=by omega
   subst e;have HE2:=lh (HE.out.symm.trans hall.out);clear hc;go_wp2;go_ret;exact⟨ret_bool HE2.out.symm,HC.out⟩
 have HE:=lh (show decide (a=b)=false from decide_eq_false (fun e=>hl (by rw[e])));have hb0:((a.length:Int) != (b.length:Int))=true:=by simp only[bne_iff_ne];omega
 clear hl
 go_enter Tryz.func35,Tryz.ntmps35
 go_wp2;go_ret;exact⟨ret_bool HE.out.symm,Chg.refl _ _⟩
end Go.Proofs.YtkacjmoamgjfpaaGreat
namespace Go.Proofs.YtkacjmoamgjfpaaGreat.Plain
theorem ring_agree {p q:Int→Int} {c:List Int} (h:Ring p c) (k:Ring q c):∀ x∈c,p x=q x:=by
 cases c with
 | nil=>simp
 | cons a l =>
  have e:=(Trail.map (show Trail p a l a from h)).trans (Trail.map (show Trail q a l a from k)).symm;exact fun x hx=>List.map_inj_left.1 e x hx
theorem ahead_roll {a b:List Int} (hn:(a++b).Nodup):∀ x∈a++b,ahead (b++a) x=ahead (a++b) x:=by
 intro x hx;have hn2:(b++a).Nodup:=(List.perm_append_comm).nodup_iff.1 hn;by_cases ha:a=[]
 ·subst ha;simp
 by_cases hb:b=[]
 ·subst hb;simp
 have h1:=ahead_ring hn (by simp[ha]);have h2:=ahead_ring hn2 (by simp[ha]);rw[List.reverse_append] at h1 h2;obtain⟨u,r,hr⟩:=List.exists_cons_of_ne_nil (show a.reverse≠[] by simpa using ha);obtain⟨v,s,hs⟩:=List.exists_cons_of_ne_nil (show b.reverse≠[] by simpa using hb);rw[hr,hs] at h1 h2;have h3:=Ring.turn (p:=ahead (a++b)) (l:=s) (m:=r) (x:=v) (y:=u) h1;have:=ring_agree h2 h3 x (by
  rw[←hr,←hs,List.mem_append,List.mem_reverse,List.mem_reverse];exact List.mem_append.1 hx)
 exact this
theorem first_split (l:List Int):∃ a b,l=a++b∧first l=b++a:=⟨l.take (lst l l.length),l.drop (lst l l.length),(List.take_append_drop _ _).symm,rfl⟩
theorem first_perm (l:List Int):(first l).Perm l:=by
 obtain⟨a,b,e1,e2⟩:=first_split l;rw[e2];exact List.perm_append_comm.trans (List.Perm.of_eq e1.symm)
theorem first_empty (l:List Int):(first l).isEmpty=l.isEmpty:=by
 have:=(first_perm l).length_eq;cases h:first l <;> cases h2:l <;> simp_all
theorem ahead_begun {l:List Int} (hn:l.Nodup):∀ x∈l,ahead (first l) x=ahead l x:=by
 obtain⟨a,b,e1,e2⟩:=first_split l;rw[e2];rw[e1] at hn ⊢;exact ahead_roll hn
theorem turnAt_map (turn:List (List Int)) (v:Int):turnAt (turn.map first) v=first (turnAt turn v):=by
 unfold turnAt List.getD;rw[List.getElem?_map];cases turn[v.toNat]? <;> rfl
theorem TurnsOk.first {g:Gr} {p:Pt} {turn:List (List Int)} (h:TurnsOk g p turn):TurnsOk g p (turn.map Plain.first):=by
 refine⟨by rw[List.length_map];exact h.len,fun v=>?_,fun v h0 hn d=>?_⟩
 ·rw[turnAt_map];exact (first_perm _).nodup_iff.2 (h.nodup v)
 rw[turnAt_map,(first_perm _).mem_iff];exact h.mem v h0 hn d
theorem turnsOk_first {g:Gr} {p:Pt} {turn:List (List Int)}:TurnsOk g p (turn.map Plain.first)↔TurnsOk g p turn:=by
 refine⟨fun h=>⟨by rw[←List.length_map (f:=Plain.first)];exact h.len,fun v=>?_,fun v h0 hn d=>?_⟩,fun h=>h.first⟩
 ·have:=h.nodup v
  rw[turnAt_map] at this;exact (first_perm _).nodup_iff.1 this
 have:=h.mem v h0 hn d;rw[turnAt_map,(first_perm _).mem_iff] at this;exact this
theorem next_first {g:Gr} {p:Pt} {turn:List (List Int)} (hp:PartOk g p) (h:TurnsOk g p turn) {d:Int} (hd:d∈p.darts):nextDart g (turn.map Plain.first) d=nextDart g turn d:=by
 unfold nextDart before;rw[turnAt_map];have ht:=twin_mem hd;have hv:=hp.vr _ (hp.tail_mem ht).1;exact ahead_begun (h.nodup _) _ ((h.mem _ hv.1 hv.2 _).2 ⟨ht,rfl⟩)
theorem loneAt_first (turn:List (List Int)) (l:List Int):loneAt (turn.map Plain.first) l=loneAt turn l:=by
 unfold loneAt
 congr 1
 refine List.filter_congr fun v _=>?_;rw[turnAt_map,first_empty]
theorem Trk.first {g:Gr} {p:Pt} {turn:List (List Int)} {F:List Face} {pre:List Int} (hp:PartOk g p) (ht:TurnsOk g p turn) (h:Trk g p turn F pre):Trk g p (turn.map Plain.first) F pre :=
 ⟨h.rings.congr fun x hx=>(next_first hp ht (h.sub x hx)).symm,h.sub,h.key,h.keys,h.least,h.cover⟩
theorem WalksOk.first {g:Gr} {p:Pt} {turn:List (List Int)} {W:List Face} (hp:PartOk g p) (ht:TurnsOk g p turn) (h:WalksOk g p turn W):WalksOk g p (turn.map Plain.first) W:=by
 obtain⟨F,e,k⟩:=h.split;rw[e,←loneAt_first turn];exact (k.first hp ht).walks hp
theorem walks_ok {g:Gr} {p:Pt} {turn:List (List Int)} (hpe:p.err g=0) (hto:TurnsOk g p turn):WalksOk g p turn (walksOf g p turn):=by
 rw[←mins_walks hpe hto];exact (mins_trk (Pt.ok_of_err hpe) (rises_pair (Pt.err_ok hpe).2.2.1) hto).walks (Pt.ok_of_err hpe)
theorem walks_first {g:Gr} {p:Pt} {turn:List (List Int)} (hpe:p.err g=0) (hto:TurnsOk g p turn):walksOf g p (turn.map Plain.first)=walksOf g p turn :=
 (((walks_ok hpe hto).first (Pt.ok_of_err hpe) hto).eq hpe).symm
theorem turnErr_first (g:Gr) (p:Pt) (turn:List (List Int)):turnErr g p (turn.map Plain.first)=turnErr g p turn:=by
 by_cases hpe:p.err g=0
 ·by_cases h:TurnsOk g p turn
  ·rw[turnErr_ok hpe h,turnErr_ok hpe h.first]
  rw[turnErr_bad hpe h,turnErr_bad hpe fun k=>h (turnsOk_first.1 k)]
 rw[turnErr_part hpe,turnErr_part hpe]
theorem flatErr_first (g:Gr) (p:Pt) (turn:List (List Int)):flatErr g p (turn.map Plain.first)=flatErr g p turn:=by
 by_cases h:turnErr g p turn=0
 ·obtain⟨hpe,hto⟩:=turnErr_zero h
  have h2:turnErr g p (turn.map Plain.first)=0:=(turnErr_first g p turn).trans h;have hw:=walks_first hpe hto;by_cases hf:Flat g p turn
  ·rw[flatErr_ok h hf,flatErr_ok h2 (by unfold Flat;rw[hw];exact hf)]
  rw[flatErr_bad h hf,flatErr_bad h2 (by unfold Flat;rw[hw];exact hf)]
 rw[flatErr_turn h,flatErr_turn (by rw[turnErr_first];exact h),turnErr_first]
theorem planErr_first (g:Gr) (p:Pt) (turn same:List (List Int)):planErr g p (turn.map Plain.first) same=planErr g p turn same:=by
 by_cases h:flatErr g p turn=0
 ·obtain⟨hte,-⟩:=flatErr_zero h
  obtain⟨hpe,hto⟩:=turnErr_zero hte;rw[planErr_run h,planErr_run ((flatErr_first g p turn).trans h),walks_first hpe hto]
 rw[planErr_flat h,planErr_flat (by rw[flatErr_first];exact h),flatErr_first]
noncomputable def loneErr (g:Gr) (p:Pt) (turn:List (List Int)):Int:=if flatErr g p turn≠0 then flatErr g p turn else if (roots g p).length≤1 then 0 else 10
theorem lone_plan {g:Gr} {p:Pt} {turn:List (List Int)} (h:loneErr g p turn=0):planErr g p (turn.map Plain.first) []=0:=by
 unfold loneErr at h;split at h
 ·rename_i q;exact absurd h q
 rename_i q;have q:flatErr g p turn=0:=Classical.byContradiction q;split at h
 ·rename_i q2
  rw[planErr_first,planErr_run q];have:=(PlanOk.start (fun _=>none) (roots g p).length).num;simp only[List.length_nil,Nat.add_zero] at this;show (if 1<(St.new (upTo (roots g p).length)).count then (7:Int) else 0)=0;rw[if_neg];have h2:(St.new (upTo (roots g p).length)).count=(roots g p).length:=this;omega
 cases h
end Go.Proofs.YtkacjmoamgjfpaaGreat.Plain
namespace Go.Proofs.YtkacjmoamgjfpaaGreat
open Go.RowKit Go.Maps
namespace Plain
theorem key_one {W:List Face} (hk:(W.map (·.1)).Pairwise (·<·)) {f f':Face} (hf:f∈W) (hf':f'∈W) (e:f.1=f'.1):f=f':=by
 obtain⟨i,hi,rfl⟩:=List.getElem_of_mem hf;obtain⟨j,hj,rfl⟩:=List.getElem_of_mem hf';rw[List.pairwise_map,List.pairwise_iff_getElem] at hk;rcases Nat.lt_trichotomy i j with h | h | h
 ·have:=hk i j hi hj h;omega
 ·subst h;rfl
 have:=hk j i hj hi h;omega
def keyAt (W:List Face) (key:Int):Option Nat:=W.findIdx? fun f=>decide (f.1=key)
theorem keyAt_hit {W:List Face} {key:Int} {k:Nat} (hk:k<W.length) (h:∀ i,i<k→(W.getD i (0,[])).1≠key) (hin:(W.getD k (0,[])).1=key):keyAt W key=some k:=by
 unfold keyAt;rw[List.findIdx?_eq_some_iff_getElem];refine⟨hk,decide_eq_true (by simpa[List.getD,hk] using hin),fun j hj=>?_⟩;have:=h j hj;have hjl:j<W.length:=by omega
 simpa[List.getD,hjl] using this
theorem keyAt_no {W:List Face} {key:Int} (h:∀ i,i<W.length→(W.getD i (0,[])).1≠key):keyAt W key=none:=by
 unfold keyAt;rw[List.findIdx?_eq_none_iff];intro f hf;obtain⟨i,hi,rfl⟩:=List.getElem_of_mem hf;have:=h i hi;simpa[List.getD,hi] using this
theorem keyAt_some {W:List Face} {key:Int} {k:Nat} (h:keyAt W key=some k):k<W.length∧(W.getD k (0,[])).1=key:=by
 unfold keyAt at h;rw[List.findIdx?_eq_some_iff_getElem] at h;obtain⟨h1,h2,-⟩:=h;exact⟨h1,by simpa[List.getD,h1] using h2⟩
theorem owner_keyAt {g:Gr} {p:Pt} {W:List Face} (hk:(W.map (·.1)).Pairwise (·<·)) {key:Int} :
  (keyAt W key=none→ownerOf g p W key=none)∧∀ k,keyAt W key=some k→ownerOf g p W key=some ((pieceIx g p ((W.getD k (0,[])).corner g):Nat):Int):=by
 constructor
 ·intro h
  unfold keyAt at h;rw[List.findIdx?_eq_none_iff] at h;unfold ownerOf;rw[List.find?_eq_none.2 (fun f hf=>by simpa using h f hf)];rfl
 intro k h;obtain⟨h1,h2⟩:=keyAt_some h;have hm:W.getD k (0,[])∈W:=by simp[List.getD,h1]
 unfold ownerOf;cases hf:W.find? fun f=>decide (f.1=key) with
 | none =>
  rw[List.find?_eq_none] at hf;exact absurd (decide_eq_true h2) (hf _ hm)
 | some f =>
  have e:f.1=key:=by have:=List.find?_some hf;simpa using this
  have:=key_one hk (List.mem_of_find?_eq_some hf) hm (e.trans h2.symm);rw[this];rfl
theorem pieceIx_hit {g:Gr} {p:Pt} {v:Int} {k:Nat} (hk:k<(roots g p).length) (h:∀ i,i<k→v ∉ comp g p ((roots g p).getD i 0)) (hin:v∈comp g p ((roots g p).getD k 0)):pieceIx g p v=k:=by
 unfold pieceIx;rw[List.findIdx_eq hk];refine⟨decide_eq_true (by simpa[List.getD,hk] using hin),fun j hj=>?_⟩;have hjl:j<(roots g p).length:=by omega
 have:=h j hj;simpa[List.getD,hjl] using this
end Plain
set_option maxRecDepth 100000 in
set_option maxHeartbeats 2000000 in
theorem refFind_any (ov:Value) (W:List Plain.Face) (xs:List Value) (key:Int) (B:Nat) (w:World) (hl:W.length<1000000000) (h:Nest w B 90 2 ov W.length xs (faceCells W)) :
  Calls Tryz.prog 83 #[ov,.int .i64 key] w fun e w'=>e=.returned (.int .i64 (ixOf (Plain.keyAt W key)))∧Chg [] w w':=by
 have HN:=lh h;obtain⟨oo,oc,rfl⟩:=h.shape;clear h
 go_enter Tryz.func83,Tryz.ntmps83
 go_wp2
 go_loopw [5] (fun c wr=>∃ k:Nat,k≤W.length∧c=.int .i64 k∧Hid (∀ i,i<k→(W.getD i (0,[])).1≠key)∧Chg [] w wr) (fun c _=>W.length - (intOf c).toNat)
 case atStart=>exact⟨0,Nat.zero_le _,rfl,lh (by omega),Chg.refl _ _⟩
 case round =>
  obtain⟨k,hk,rfl,hno,hc⟩:=hrel;have HC:=lh hc;by_cases hlt:k<W.length
  ·obtain⟨wg,wcc,fa,fc,ewo,m0,-,-⟩:=nest_face HN.out rfl hlt
   simp only[Value.slice.injEq] at ewo;obtain⟨rfl,-,rfl⟩:=ewo;have f0:=hc.c m0;have HH:=lh (fun h=>Plain.keyAt_hit (key:=key) hlt hno.out h);have HNO:=lh (fun (h:(W.getD k (0,[])).1≠key) i (hi:i<k+1)=>show (W.getD i (0,[])).1≠key from by
    by_cases e:i=k
    ·rw[e];exact h
    exact hno.out i (by omega))
   obtain⟨z,hz⟩:∃ z,(W.getD k (0,[])).1=z:=⟨_,rfl⟩;rw[hz] at f0 HH HNO;clear m0 hc hz;by_cases q:z=key
   ·have b1:(z==key)=true:=by rw[beq_iff_eq];exact q
    have HE:=lh (HH.out q);clear q;go_wp2;go_ret;exact⟨ret_int (by rw[HE.out];rfl),HC.out⟩
   have b1:(z==key)=false:=by rw[beq_eq_false_iff_ne];exact q
   have HE:=lh (HNO.out q);clear q;go_wp2
   go_roundw
   case rel=>exact⟨k+1,by omega,by go_num,HE,HC.out⟩
   case measure=>simp[intOf];omega
  have e:k=W.length:=by omega
  subst e;have HE:=lh (Plain.keyAt_no hno.out);clear hc;go_wp2;go_ret;exact⟨ret_int (by rw[HE.out];rfl),HC.out⟩
set_option maxRecDepth 100000 in
set_option maxHeartbeats 4000000 in
theorem refOwner_any (vg pv:Value) (g:Plain.Gr) (p:Plain.Pt) (turn:List (List Int)) (f:Plain.Face) (u:Value) (px:List Value) (B:Nat) (w:World) (hpv:p.v.length≤1000) (hpe:p.err g=0) (hW:Plain.WalksOk g p turn (Plain.walksOf g p turn)) (hf:f∈Plain.walksOf g p turn) (hu:∃ a n c,u=.slice a n c) (hg:GrAt w vg g) {nn:Nat} (hnn:nn=(Plain.roots g p).length)
  (hn:Nest w B 29 2 pv nn px (pcs (Plain.comp g p) (fun r=>(p.sub g (Plain.comp g p r)).e) (Plain.roots g p))) :
  Calls Tryz.prog 84 #[vg,pv,.agg #[.int .i64 f.1,u]] w fun e w'=>e=.returned (.int .i64 (Plain.pieceIx g p (f.corner g):Nat))∧Chg [] w w':=by
 subst hnn;have HPO:=Plain.Pt.ok_of_err hpe;have hcm:=Plain.corner_mem HPO hW.faces f hf;have hex:=Plain.root_of (g:=g) (fun v hv=>(HPO.vr v hv).1) hcm;have HHIT:=lh (fun k hk h hin=>Plain.pieceIx_hit (g:=g) (p:=p) (v:=f.corner g) (k:=k) hk h hin);have HEX:=lh (show ∃ i,i<(Plain.roots g p).length∧f.corner g∈Plain.comp g p ((Plain.roots g p).getD i 0) from by
  obtain⟨r,hr,hc⟩:=hex;obtain⟨i,hi,rfl⟩:=Plain.mem_getD hr;exact⟨i,hi,Plain.mem_comp.2 ⟨hcm,hc⟩⟩)
 have hrl2:(Plain.roots g p).length≤1000:=by rw[←Plain.rootsTo_all];exact Nat.le_trans (Plain.rootsTo_len g p _) hpv
 have HG:=lh hg;have HN:=lh hn;have HPE:=lh hpe;have HW:=lh hW;have HF:=lh hf;obtain⟨po,pc,rfl⟩:=hn.shape;obtain⟨ua,un,uc,rfl⟩:=hu;obtain⟨eo,cap,rfl,-,-,-,-⟩:=hg;obtain⟨hb1,hb2,hc1⟩:=box_two w #[.int .i64 g.n,.slice eo g.e.length cap] #[.int .i64 f.1,.slice ua un uc] 24 90;have X0:=lh ((cell_of_row _ _ 0 _ _ _ hb1).trans (show _=some (Value.int .i64 g.n) from rfl));have X1:=lh ((cell_of_row _ _ 1 _ _ _ hb1).trans (show _=some (Value.slice eo g.e.length cap) from rfl));have Y0:=lh ((cell_of_row _ _ 0 _ _ _ hb2).trans (show _=some (Value.int .i64 f.1) from rfl));have Y1:=lh ((cell_of_row _ _ 1 _ _ _ hb2).trans (show _=some (Value.slice ua un uc) from rfl));have HC1:=lh hc1;obtain⟨R,hR⟩:∃ R,Plain.roots g p=R:=⟨_,rfl⟩;rw[hR] at HHIT HEX hrl2 HN ⊢;clear HPO hcm hex hn hpe hW hf hb1 hb2 hc1 hR
 go_enter Tryz.func84,Tryz.ntmps84
 go_wp2;generalize ((w.alloc (.cells #[.int .i64 g.n,.slice eo g.e.length cap] 24)).alloc (.cells #[.int .i64 f.1,.slice ua un uc] 90))=w1 at *
 go_loopw [7] (fun c wr=>∃ k:Nat,k≤R.length∧c=.int .i64 k∧Hid (∀ i,i<k→f.corner g ∉ Plain.comp g p (R.getD i 0))∧Chg [] w1 wr) (fun c _=>R.length - (intOf c).toNat)
 case atStart=>exact⟨0,Nat.zero_le _,rfl,lh (by omega),Chg.refl _ _⟩
 case round =>
  obtain⟨k,hk,rfl,hno,hc⟩:=hrel;have HC:=lh hc;have HCW:=lh (HC1.out.t hc);by_cases hlt:k<R.length
  ·obtain⟨pg,pcc,va,vc,ea,ec,epo,n0,n1,nr0,-⟩:=nest_pair HN.out rfl hlt
   simp only[Value.slice.injEq] at epo;obtain⟨rfl,-,rfl⟩:=epo;have p0:=HCW.out.c n0;have x0:=hc.c X0.out;have x1:=hc.c X1.out;have y0:=hc.c Y0.out;have y1:=hc.c Y1.out;have NR:=lh nr0;have HH:=lh (fun h=>HHIT.out k hlt hno.out h);have HNO:=lh (fun (h:f.corner g ∉ Plain.comp g p (R.getD k 0)) i (hi:i<k+1)=>show f.corner g ∉ Plain.comp g p (R.getD i 0) from by
    by_cases e:i=k
    ·rw[e];exact h
    exact hno.out i (by omega))
   obtain⟨C,hC⟩:∃ C,Plain.comp g p (R.getD k 0)=C:=⟨_,rfl⟩;rw[hC] at p0 NR HH HNO;clear n0 n1 nr0 hc hC;go_wp2;have hS0:Chg [] wr wr.drew:=(Chg.refl [] wr).drew;refine wp_region_way (Chg [] wr) [0,1,2,3,4,5,6] (Way.line [0,1,2,3,4,5,6,7,8] .done) (by kernel_rfl) (by kernel_rfl) ?_;simp only[Way.line]
   repeat
    first
     | (refine along_off rfl (by rfl) (by rfl) (fun _ _ _ h=>h) hS0 ?_;simp only[Act.put,Z1,Z2,Z3,Z4,Z5,Z6])
     | (refine along_read (v:=?_) rfl (by rfl) (by rfl) (fun _ _ _ h=>h) hS0 (fun w' hS'=>?_) ?_;rotate_left;(focus (have rd0:=hS'.c x0;have rd1:=hS'.c x1;have rd2:=hS'.c y0;have rd3:=hS'.c y1;have rd4:=hS'.c p0;clear hS';go_simp;try with_reducible rfl));simp only[Act.put,Z1,Z2,Z3,Z4,Z5,Z6])
     | (refine along_skip rfl (by rfl) (by rfl) hS0 ?_;simp only[Act.put,Z1,Z2,Z3,Z4,Z5,Z6])
   refine along_op rfl (by rfl) (by rfl) (fun K hK=>?_);go_simp;refine (refCorner_any _ g p turn f _ _ HPE.out HW.out HF.out (HG.out.fresh (HCW.out.t hS0))).mono ?_;rintro e w6 ⟨rfl,hcx⟩;have hS1:=hS0.t hcx;clear hS0 hcx;have hS0:=hS1;clear hS1;refine hK.out _ _ (fun _=>hS0) ?_;clear hK K
   try simp only[Act.put,Z1,Z2,Z3,Z4,Z5,Z6]
   refine along_op rfl (by rfl) (by rfl) (fun K hK=>?_);go_simp;refine (in_any _ C (f.corner g) _ ((NR.out.ints).fresh (HCW.out.t hS0))).mono ?_;rintro e w7 ⟨rfl,hcx⟩;have hS1:=hS0.t hcx;clear hS0 hcx;have hS0:=hS1;clear hS1;refine hK.out _ _ (fun _=>hS0) ?_;clear hK K
   try simp only[Act.put,Z1,Z2,Z3,Z4,Z5,Z6]
   refine along_done ?_;have HC7:=lh (HC.out.t hS0);have HCF:=lh (HCW.out.t hS0);clear x0 x1 y0 y1 p0 hS0;by_cases q:f.corner g∈C
   ·rw[decide_eq_true q]
    have HE:=lh (HH.out q);clear q;go_wp2;go_ret;exact⟨ret_int (by rw[HE.out]),HCF.out⟩
   rw[decide_eq_false q];have HE:=lh (HNO.out q);clear q;go_wp2
   go_roundw
   case rel=>exact⟨k+1,by omega,by go_num,HE,HC7.out⟩
   case measure=>simp[intOf];omega
  exfalso;obtain⟨i,hi,hin⟩:=HEX.out;exact hno.out i (by omega) hin
end Go.Proofs.YtkacjmoamgjfpaaGreat
namespace Go.Proofs.YtkacjmoamgjfpaaGreat.Plain
theorem refRun_none {ow:Int→Option Int} {same:List (List Int)} {st:List Nat × List Int} {k:Nat} (h:refRun ow same st k=none):∀ n,k≤n→refRun ow same st n=none
 | 0,hk=>by
  have:k=0:=by omega
  subst this;exact h
 | n+1,hk=>by
  by_cases e:k=n+1
  ·subst e;exact h
  show (refRun ow same st n).bind _=none;rw[refRun_none h n (by omega)];rfl
theorem joinRun_none {ow:Int→Option Int} {l:List Int} {grp:List Nat} {k:Nat} (h:joinRun ow l grp k=none):∀ n,k≤n→joinRun ow l grp n=none
 | 0,hk=>by
  have:k=0:=by omega
  subst this;exact h
 | n+1,hk=>by
  by_cases e:k=n+1
  ·subst e;exact h
  show (joinRun ow l grp n).bind _=none;rw[joinRun_none h n (by omega)];rfl
theorem keysOk_less {ow:Int→Option Int} {l met:List Int} {k n:Nat} (h:keysOk ow l met n) (hk:k≤n):keysOk ow l met k:=fun i hi=>h i (by omega)
noncomputable abbrev run08 (g:Gr) (p:Pt) (turn same:List (List Int)) (i:Nat):Option (List Nat × List Int):=refRun (ownerOf g p (walksOf g p turn)) same (List.range (roots g p).length,[]) i
theorem run08_succ {g:Gr} {p:Pt} {turn same:List (List Int)} {i:Nat} {c:List Nat × List Int} (h:run08 g p turn same i=some c) :
  run08 g p turn same (i+1)=if listBad same i then none else if keysOk (ownerOf g p (walksOf g p turn)) (same.getD i []) c.2 (same.getD i []).length then (joinRun (ownerOf g p (walksOf g p turn)) (same.getD i []) c.1 (same.getD i []).length).map fun q=>(q,c.2++same.getD i []) else none:=by
 show (refRun _ _ _ i).bind _=_;rw[show refRun (ownerOf g p (walksOf g p turn)) same (List.range (roots g p).length,[]) i=some c from h];rfl
theorem run08_stop {g:Gr} {p:Pt} {turn same:List (List Int)} {i:Nat} (hf:flatErr g p turn=0) (hi:i≤same.length) (h:run08 g p turn same i=none):planErr g p turn same=7:=by
 obtain⟨hpe,hto⟩:=turnErr_zero (flatErr_zero hf).1;rw[planErr_ref hf (Pt.ok_of_err hpe) (walks_ok hpe hto),refRun_none h _ hi]
theorem run08_bad {g:Gr} {p:Pt} {turn same:List (List Int)} {i:Nat} {c:List Nat × List Int} (hf:flatErr g p turn=0) (hi:i<same.length) (h:run08 g p turn same i=some c) (hb:listBad same i):planErr g p turn same=7 :=
 run08_stop hf hi (by rw[run08_succ h,if_pos hb])
theorem run08_key {g:Gr} {p:Pt} {turn same:List (List Int)} {i k:Nat} {c:List Nat × List Int} (hf:flatErr g p turn=0) (hi:i<same.length) (h:run08 g p turn same i=some c) (hk:k<(same.getD i []).length)
  (hb:¬ keysOk (ownerOf g p (walksOf g p turn)) (same.getD i []) c.2 (k+1)):planErr g p turn same=7 :=
 run08_stop hf hi (by
  rw[run08_succ h];split
  ·rfl
  rw[if_neg fun q=>hb (keysOk_less q hk)])
theorem run08_join {g:Gr} {p:Pt} {turn same:List (List Int)} {i k:Nat} {c:List Nat × List Int} (hf:flatErr g p turn=0) (hi:i<same.length) (h:run08 g p turn same i=some c) (hk:k<(same.getD i []).length)
  (hb:joinRun (ownerOf g p (walksOf g p turn)) (same.getD i []) c.1 (k+1)=none):planErr g p turn same=7 :=
 run08_stop hf hi (by
  rw[run08_succ h,joinRun_none hb _ hk];split
  ·rfl
  split <;> rfl)
theorem run08_next {g:Gr} {p:Pt} {turn same:List (List Int)} {i:Nat} {c:List Nat × List Int} {q:List Nat} (h:run08 g p turn same i=some c) (hb:¬ listBad same i)
  (hk:keysOk (ownerOf g p (walksOf g p turn)) (same.getD i []) c.2 (same.getD i []).length) (hj:joinRun (ownerOf g p (walksOf g p turn)) (same.getD i []) c.1 (same.getD i []).length=some q):run08 g p turn same (i+1)=some (q,c.2++same.getD i []):=by
 rw[run08_succ h,if_neg hb,if_pos hk,hj];rfl
theorem run08_end {g:Gr} {p:Pt} {turn same:List (List Int)} {c:List Nat × List Int} (hf:flatErr g p turn=0) (h:run08 g p turn same same.length=some c) :
  (∀ i,i<c.1.length→c.1.getD i 0≠c.1.getD 0 0→planErr g p turn same=7)∧((∀ i,i<c.1.length→c.1.getD i 0=c.1.getD 0 0)→planErr g p turn same=0):=by
 classical
 obtain⟨hpe,hto⟩:=turnErr_zero (flatErr_zero hf).1;have e:=planErr_ref (same:=same) hf (Pt.ok_of_err hpe) (walks_ok hpe hto);rw[show refRun (ownerOf g p (walksOf g p turn)) same (List.range (roots g p).length,[]) same.length=some c from h] at e;constructor
 ·intro i hi hne
  rw[e];show (if apartGrp c.1 then (7:Int) else 0)=7;rw[if_pos ⟨i,hi,hne⟩]
 intro hall;rw[e];show (if apartGrp c.1 then (7:Int) else 0)=0;rw[if_neg];rintro ⟨i,hi,hne⟩;exact hne (hall i hi)
theorem run08_len {g:Gr} {p:Pt} {turn same:List (List Int)} (hb:∀ y a,ownerOf g p (walksOf g p turn) y=some a→0≤a∧a<((roots g p).length:Int)):∀ (i:Nat) (c:List Nat × List Int),run08 g p turn same i=some c→c.1.length=(roots g p).length:=by
 intro i c h;obtain⟨r1,r2⟩:=run_alike (same:=same) hb i;cases hm:sameRun (ownerOf g p (walksOf g p turn)) same (St.new (upTo (roots g p).length),[]) i with
 | none=>have h2:=r2 hm;rw[show refRun _ same _ i=some c from h] at h2;cases h2
 | some d =>
  obtain⟨q,hq,hA⟩:=r1 d hm;rw[show refRun _ same _ i=some c from h] at hq;cases hq;exact hA.len
theorem grpStep_len (a b:Nat) (grp:List Nat):(grpStep a b grp).length=grp.length:=by unfold grpStep;rw[List.length_map]
theorem joinRun_len {ow:Int→Option Int} {l:List Int} {grp:List Nat}:∀ (k:Nat) (q:List Nat),joinRun ow l grp k=some q→q.length=grp.length
 | 0,q,h=>by cases h;rfl
 | k+1,q,h=>by
  have h:(joinRun ow l grp k).bind _=some q:=h;cases hm:joinRun ow l grp k with
  | none=>rw[hm] at h;cases h
  | some r =>
   rw[hm] at h;have ih:=joinRun_len k r hm;have h:(if k=0 then some r else if grpAt ow r (l.getD 0 0)=grpAt ow r (l.getD k 0) then none else some (grpStep (grpAt ow r (l.getD 0 0)) (grpAt ow r (l.getD k 0)) r))=some q:=h;split at h
   ·cases h;exact ih
   split at h
   ·cases h
   cases h;rw[grpStep_len];exact ih
theorem joinRun_succ {ow:Int→Option Int} {l:List Int} {grp q:List Nat} {k:Nat} (hk:0<k) (h:joinRun ow l grp k=some q) :
  (grpAt ow q (l.getD 0 0)=grpAt ow q (l.getD k 0)→joinRun ow l grp (k+1)=none)∧(grpAt ow q (l.getD 0 0)≠grpAt ow q (l.getD k 0)→joinRun ow l grp (k+1)=some (grpStep (grpAt ow q (l.getD 0 0)) (grpAt ow q (l.getD k 0)) q)):=by
 have e:joinRun ow l grp (k+1)=if k=0 then some q else if grpAt ow q (l.getD 0 0)=grpAt ow q (l.getD k 0) then none else some (grpStep (grpAt ow q (l.getD 0 0)) (grpAt ow q (l.getD k 0)) q):=by
  show (joinRun ow l grp k).bind _=_;rw[h];rfl
 rw[if_neg (by omega)] at e;exact⟨fun q2=>by rw[e,if_pos q2],fun q2=>by rw[e,if_neg q2]⟩
theorem joinRun_one (ow:Int→Option Int) (l:List Int) (grp:List Nat):joinRun ow l grp 1=some grp:=rfl
def stepTo (a b:Nat) (grp:List Nat) (j:Nat):List Nat:=(grp.take j).map (fun x=>if x=b then a else x)++grp.drop j
theorem stepTo_zero (a b:Nat) (grp:List Nat):stepTo a b grp 0=grp:=by simp[stepTo]
theorem stepTo_all (a b:Nat) (grp:List Nat):stepTo a b grp grp.length=grpStep a b grp:=by simp[stepTo,grpStep]
theorem stepTo_len (a b:Nat) (grp:List Nat) (j:Nat):(stepTo a b grp j).length=grp.length:=by unfold stepTo;simp;omega
theorem stepTo_at {a b:Nat} {grp:List Nat} {j:Nat} (hj:j<grp.length):(stepTo a b grp j).getD j 0=grp.getD j 0:=by
 unfold stepTo List.getD;rw[List.getElem?_append_right (by simp;omega)];simp[List.length_take,Nat.min_eq_left (Nat.le_of_lt hj)]
theorem stepTo_next {a b:Nat} {grp:List Nat} {j:Nat} (hj:j<grp.length):stepTo a b grp (j+1)=if grp.getD j 0=b then (stepTo a b grp j).set j a else stepTo a b grp j:=by
 have hlen:=stepTo_len a b grp j;have e1:grp.take (j+1)=grp.take j++[grp[j]]:=List.take_succ_eq_append_getElem hj;have e2:grp.drop j=grp[j] :: grp.drop (j+1):=List.drop_eq_getElem_cons hj;have e3:grp.getD j 0=grp[j]:=by simp[List.getD,hj]
 have hl:((grp.take j).map fun x=>if x=b then a else x).length=j:=by simp;omega
 unfold stepTo;rw[e1,List.map_append,e3];by_cases h:grp[j]=b
 ·rw[if_pos h,e2]
  rw[List.set_append_right _ _ (by rw[hl];exact Nat.le_refl _),hl,Nat.sub_self];simp[h]
 rw[if_neg h,e2];simp[h]
end Go.Proofs.YtkacjmoamgjfpaaGreat.Plain
