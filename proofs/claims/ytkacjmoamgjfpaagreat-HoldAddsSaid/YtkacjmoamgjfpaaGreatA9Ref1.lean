/- ref02.Turned, First; ref06.First, Equal: contracts. Conditions: lists that lie in memory and read so, of a bounded size. -/
import Derived.Test.YtkacjmoamgjfpaaGreatA9RefS
namespace Go.Proofs.YtkacjmoamgjfpaaGreat
open Go.RowKit Go.Maps
namespace aA
theorem aFa {l:List Int} {a k:Nat} (ha:a<l.length) (hk:k<l.length):(l.drop a++l.take a).getD k 0=l.getD ((a+k) % l.length) 0:=by
 unfold List.getD;by_cases h:k<l.length - a
 ·rw[List.getElem?_append_left (by simp;omega),List.getElem?_drop,Nat.mod_eq_of_lt (by omega)]
 rw[List.getElem?_append_right (by simp;omega),List.length_drop,List.getElem?_take,if_pos (by omega)];rw[show (a+k) % l.length=k - (l.length - a) by rw[Nat.mod_eq_sub_mod (by omega),Nat.mod_eq_of_lt (by omega)];omega]
theorem aCG {l:List Int} {a:Nat} (ha:a≤l.length):(l.drop a++l.take a).length=l.length:=by simp;omega
end aA
set_option maxRecDepth 100000 in
set_option maxHeartbeats 2000000 in
theorem yA (v:Value) (l:List Int) (a:Nat) (w:World) (ha:a<l.length∨(a=0∧l=[])) (hl:l.length<1000000000) (h:aL w v l) :
  Calls Tryz.prog 136 #[v,.int .i64 a] w fun e w'=>∃ ov,e=.returned ov∧aM w' w.heap.size ov (l.drop a++l.take a)∧Chg [] w w':=by
 have H:=lh h;have htl:(l.drop a++l.take a).length=l.length:=aA.aCG (by rcases ha with q | ⟨q,-⟩ <;> omega);have HTA:=lh (fun k (hk:k<l.length)=>aA.aFa (l:=l) (a:=a) (k:=k) (by rcases ha with q | ⟨q,r⟩;exact q;rw[r] at hk;simp at hk) hk);have hal:a≤l.length:=by rcases ha with q | ⟨q,-⟩ <;> omega
 obtain⟨M,hM⟩:∃ M,l.drop a++l.take a=M:=⟨_,rfl⟩;rw[hM] at htl HTA ⊢;have HTL:=lh htl;obtain⟨ao,cap,rfl,hsm,hm,-⟩:=h;have HSM:=lh hsm;clear ha hM htl hsm
 go_enter Tryz.func136,Tryz.ntmps136
 go_wp2
 go_loopw [5,6] (fun ov c wr=>∃ k:Nat,k≤l.length∧c=.int .i64 k∧aM wr w.heap.size ov (M.take k)∧Chg [] w wr) (fun _ c _=>l.length - (intOf c).toNat)
 case atStart=>exact⟨0,Nat.zero_le _,rfl,by simpa using gH _ _,Chg.refl _ _⟩
 case round =>
  obtain⟨k,hk,rfl,hrow,hc⟩:=hrel;have HROW:=lh hrow;obtain⟨oo,oc,rfl⟩:=hrow.shape;have HC:=lh hc;by_cases hlt:k<l.length
  ·have hml:(a+k) % l.length<l.length:=Nat.mod_lt _ (by omega)
   obtain⟨b,off,rfl,cell⟩:=aL.cellAt (H.out.fresh hc) hml;have HTK:=lh (show M.take (k+1)=M.take k++[l.getD ((a+k) % l.length) 0] by rw[←HTA.out k hlt];exact aA.eD (by have:=HTL.out;omega));have HIX:=lh (HSM.out (l.getD ((a+k) % l.length) 0) (by simp[List.getD,hml]));obtain⟨j,hj⟩:∃ j,(a+k) % l.length=j:=⟨_,rfl⟩;have q1:IntKind.i64.wrap ((a:Int)+(k:Int))=(a:Int)+(k:Int):=IntWalk.i64_in _ (by omega);have q2:Int.tmod ((a:Int)+(k:Int)) (l.length:Int)=(j:Int):=by rw[Int.tmod_eq_emod_of_nonneg (by omega),show (a:Int)+(k:Int)=((a+k:Nat):Int) by omega,←hj];omega
   have q3:((l.length:Int)==0)=false:=by rw[beq_eq_false_iff_ne];omega
   rw[hj] at hml cell HTK HIX;obtain⟨z,hz⟩:∃ z,l.getD j 0=z:=⟨_,rfl⟩;rw[hz] at cell HTK HIX;have HB:=lh hc.size;have hll:(M.take k).length<4294967290:=by simp;omega
   obtain⟨L,hL⟩:∃ L,M.take k=L:=⟨_,rfl⟩;rw[hL] at HROW HTK hll ⊢;clear hrow hc hj hz hL
   go_wp2_with (at_builtin;refine dS rfl _ _ rfl (B:=w.heap.size) (v:=.slice oo _ oc) rfl rfl HROW.out HIX.out HB.out hll rfl ?_;intro v9 w9 r9 c9 f9;have R9:=lh r9;have C9:=lh c9;clear r9 c9 f9)
   go_roundw
   case rel=>exact⟨k+1,by omega,by go_num,by rw[HTK.out];exact R9.out,HC.out.trans C9.out (fun j hj=>Or.inr (by rw[HROW.out.aP] at hj;exact (HROW.out.low j hj).1))⟩
   case measure=>simp[intOf];omega
  have e:k=l.length:=by omega
  subst e;rw[←HTL.out,List.take_length] at HROW;rw[List.take_of_length_le (by rw[HTL.out];omega)];clear hrow hc;obtain⟨n,hn⟩:∃ n,M.length=n:=⟨_,rfl⟩;rw[hn] at HROW ⊢;clear hn;go_wp2;go_ret;exact⟨_,rfl,HROW.out,HC.out⟩
set_option maxRecDepth 100000 in
set_option maxHeartbeats 2000000 in
theorem aAR (v:Value) (l:List Int) (w:World) (hl:l.length<1000000000) (h:aL w v l) :
  Calls Tryz.prog 85 #[v] w fun e w'=>∃ ov,e=.returned ov∧aM w' w.heap.size ov (aA.first l)∧Chg [] w w':=by
 have H:=lh h;obtain⟨ao,cap,rfl,hsm,hm,-⟩:=h;clear hsm
 go_enter Tryz.func85,Tryz.ntmps85
 go_wp2
 go_loopw [3,4] (fun m c wr=>∃ k:Nat,k≤l.length∧c=.int .i64 k∧m=.int .i64 (aA.lst l k:Nat)∧Chg [] w wr) (fun _ c _=>l.length - (intOf c).toNat)
 case atStart=>exact⟨0,Nat.zero_le _,rfl,rfl,Chg.refl _ _⟩
 case round =>
  obtain⟨k,hk,rfl,rfl,hc⟩:=hrel;have HC:=lh hc;by_cases hlt:k<l.length
  ·have hll:=aA.aAP (l:=l) (by omega) k hk
   obtain⟨b,off,rfl,ck⟩:=aL.cellAt (H.out.fresh hc) hlt;obtain⟨b',off',e,cm⟩:=aL.cellAt (H.out.fresh hc) hll;obtain⟨rfl,rfl⟩:b=b'∧off=off':=by simpa using e
   have HLS:=lh (show aA.lst l (k+1)=if l.getD k 0<l.getD (aA.lst l k) 0 then k else aA.lst l k from rfl);obtain⟨m,hm2⟩:∃ m,aA.lst l k=m:=⟨_,rfl⟩;rw[hm2] at hll cm HLS ⊢;obtain⟨x,hx⟩:∃ x,l.getD k 0=x:=⟨_,rfl⟩;obtain⟨y,hy⟩:∃ y,l.getD m 0=y:=⟨_,rfl⟩;rw[hx] at ck HLS;rw[hy] at cm HLS;clear hc e hm2 hx hy;go_wp2;have hS0:Chg [] wr wr.drew:=(Chg.refl [] wr).drew;refine aF (Chg [] wr) [0,1,2,3,4,5,6,7,8] (Way.line [0,1,2,3,4,5,6,7,8] .done) (by kernel_rfl) (by kernel_rfl) ?_;simp only[Way.line]
   repeat
    first
     | (refine aE rfl (by rfl) (by rfl) (fun _ _ _ h=>h) hS0 ?_;simp only[Act.put,Z1,Z2,Z3,Z4,Z5,Z6])
     | (refine aC (v:=?_) rfl (by rfl) (by rfl) (fun _ _ _ h=>h) hS0 (fun w' hS'=>?_) ?_;rotate_left;(focus (have rd0:=hS'.c ck;have rd1:=hS'.c cm;clear hS';go_simp;try with_reducible rfl));simp only[Act.put,Z1,Z2,Z3,Z4,Z5,Z6])
     | (refine aD rfl (by rfl) (by rfl) hS0 ?_;simp only[Act.put,Z1,Z2,Z3,Z4,Z5,Z6])
   refine aG ?_;have HCD:=lh (HC.out.t hS0);clear hS0 ck cm;by_cases q:x<y
   ·have b1:decide (x<y)=true:=decide_eq_true q
    have HE:=lh (HLS.out.trans (if_pos q));clear b1;go_wp2
    go_roundw
    case rel=>exact⟨k+1,by omega,by go_num,by rw[HE.out],HCD.out⟩
    case measure=>simp[intOf];omega
   have b1:decide (x<y)=false:=decide_eq_false q;have HE:=lh (HLS.out.trans (if_neg q));clear b1;go_wp2
   go_roundw
   case rel=>exact⟨k+1,by omega,by go_num,by rw[HE.out],HCD.out⟩
   case measure=>simp[intOf];omega
  have e:k=l.length:=by omega
  subst e;have hm0:aA.lst l l.length<l.length∨(aA.lst l l.length=0∧l=[]):=by
   rcases Nat.eq_zero_or_pos l.length with q | q
   ·have:l=[]:=List.length_eq_zero_iff.1 q
    subst this;exact Or.inr ⟨rfl,rfl⟩
   exact Or.inl (aA.aAP q _ (Nat.le_refl _))
  have HF:=lh (show aA.first l=l.drop (aA.lst l l.length)++l.take (aA.lst l l.length) from rfl);have HB:=lh hc.size;obtain⟨m,hm2⟩:∃ m,aA.lst l l.length=m:=⟨_,rfl⟩;rw[hm2] at hm0 HF ⊢;have HM0:=lh hm0;clear hc hm2 hm0
  go_wp2_with fail
  refine (yA _ l m _ HM0.out hl (H.out.fresh HC.out)).mono ?_;rintro e w2 ⟨ov,rfl,hrow,hc2⟩;obtain⟨oo,oc,rfl⟩:=hrow.shape;have HR:=lh (hrow.base HB.out);have HCF:=lh (HC.out.t hc2);obtain⟨n,hn⟩:∃ n,(l.drop m++l.take m).length=n:=⟨_,rfl⟩;rw[hn] at HR ⊢;clear hrow hc2 hn;go_wp2;go_ret;exact⟨_,rfl,by rw[HF.out];exact HR.out,HCF.out⟩
set_option maxRecDepth 100000 in
set_option maxHeartbeats 2000000 in
theorem yH (vt:Value) (aB:List (List Int)) (w:World) (hTL:aB.length<1000000000) (htr:∀ i,(aB.getD i []).length<1000000000) (h:cG w vt aB) :
  Calls Tryz.prog 36 #[vt] w fun e w'=>∃ ov vs,e=.returned ov∧aR w' w.heap.size ov vs (aB.map aA.first)∧cG w' ov (aB.map aA.first)∧Chg [] w w':=by
 have HT:=lh h;have HTR:=lh htr;obtain⟨tno,tc,rfl,htm,-⟩:=h;clear htr
 go_enter Tryz.func36,Tryz.ntmps36
 go_wp2
 go_loopw [3,4] (fun ov c wr=>∃ (k:Nat) (vs:List Value),k≤aB.length∧c=.int .i64 k∧aR wr w.heap.size ov vs ((aB.take k).map aA.first)∧Hid (∀ l∈(aB.take k).map aA.first,(∀ x∈l,I64 x)∧l.length<4294967296)∧Chg [] w wr) (fun _ c _=>aB.length - (intOf c).toNat)
 case atStart=>exact⟨0,[],Nat.zero_le _,rfl,by simpa using aR.nil _ _,lh (by simp),Chg.refl _ _⟩
 case round =>
  obtain⟨k,vs,hk,rfl,hro,hsm,hc⟩:=hrel;have HRO:=lh hro;obtain⟨oo,oc,rfl⟩:=bR hro.out;have hvl:vs.length=k:=by rw[hro.len];simp;omega
  have HC:=lh hc;by_cases hlt:k<aB.length
  ·obtain⟨tb,toff,uo,uc,rfl,tcell,hrow⟩:=(HT.out.fresh hc).row hlt
   have HMS:=lh (aA.lY (f:=aA.first) hlt);have hTl:=HTR.out k;obtain⟨T,hT⟩:∃ T,aB.getD k []=T:=⟨_,rfl⟩;rw[hT] at hrow tcell HMS hTl;have HROW:=lh hrow;have HB:=lh hc.size;have HVL:=lh hvl;obtain⟨n,hn⟩:∃ n,vs.length=n:=⟨_,rfl⟩;have hnn:n<1000000000:=by omega
   have HN:=lh hn;rw[hn];clear hro hrow hc hT hvl hn
   go_wp2_with fail
   refine (aAR _ T _ hTl HROW.out).mono ?_;rintro e w3 ⟨v',rfl,hrv,hc3⟩;obtain⟨vo,vc,rfl⟩:=hrv.shape;have HRV:=lh hrv;have HC3:=lh (HC.out.t hc3);have HRO3:=lh (HRO.out.chg hc3 (by simp) (by simp));have HX:=lh (fF HRO.out);obtain⟨g5,q5,w5,hr5,hro5,hc5,-⟩:=aAs HRO3.out (by have:=HC3.out.size;omega) HRV.out HB.out HX.out (by have:=HN.out;omega) (Or.inl rfl) 30;rw[HN.out] at hr5 hro5 hc5;have HRO5:=lh hro5;have HC5:=lh (HC3.out.trans hc5 (fun j hj=>Or.inr (by have:=HRO3.out.out.lt j (by rw[HN.out];simpa using hj);exact this.1)));have HS5:=lh (show ∀ l∈(aB.take (k+1)).map aA.first,(∀ x∈l,I64 x)∧l.length<4294967296 from fun l hl=>by
    rw[HMS.out,List.mem_append] at hl;rcases hl with q | q
    ·exact hsm.out l q
    rw[List.mem_singleton.1 q];exact HRV.out.2)
   clear tcell hrv hc3 hro5 hc5
   go_wp2_with (at_builtin;refine gB rfl (.tmp 11) (.tmp 17) 30 rfl rfl rfl hr5 ?_)
   go_roundw
   case rel=>exact⟨k+1,_,by omega,by go_num,by rw[HMS.out];exact HRO5.out,HS5,HC5.out⟩
   case measure=>simp[intOf];omega
  have e:k=aB.length:=by omega
  subst e;rw[List.take_length] at HRO hsm;have HRD:=lh (HRO.out.read hsm.out);clear hro hc;obtain⟨TT,hTT⟩:∃ TT,aB.map aA.first=TT:=⟨_,rfl⟩;have HTT:=lh hTT;rw[hTT] at HRO HRD;clear hTT;have HVL:=lh hvl;clear hvl;obtain⟨n,hn⟩:∃ n,vs.length=n:=⟨_,rfl⟩;rw[hn] at HRO HRD ⊢;clear hn;go_wp2;go_ret;exact⟨_,vs,rfl,by rw[HTT.out];exact HRO.out,by rw[HTT.out];exact HRD.out,HC.out⟩
theorem aB7 {a b:List (List Int)} (hl:a.length=b.length):(List.range a.length).all (fun i=>decide (a.getD i []=b.getD i []))=decide (a=b):=by
 by_cases h:a=b
 ·subst h
  rw[decide_eq_true rfl,List.all_eq_true];simp
 rw[decide_eq_false h,List.all_eq_false];refine Classical.byContradiction fun q=>h (List.ext_getElem hl fun i h1 h2=>?_);refine Classical.byContradiction fun e=>q ⟨i,List.mem_range.2 h1,?_⟩;simpa[List.getD,h1,h2] using e
set_option maxRecDepth 100000 in
set_option maxHeartbeats 2000000 in
theorem qB (va vb:Value) (a b:List (List Int)) (w:World) (ha:cG w va a) (hb:cG w vb b) :
  Calls Tryz.prog 35 #[va,vb] w fun e w'=>e=.returned (.bool (decide (a=b)))∧Chg [] w w':=by
 have HA:=lh ha;have HB:=lh hb;obtain⟨ao,ac,rfl,ham,-⟩:=ha;obtain⟨bo,bc,rfl,hbm,-⟩:=hb;by_cases hl:a.length=b.length
 ·have HE:=lh (aB7 hl)
  have HL:=lh hl;have hb0:((a.length:Int) != (b.length:Int))=false:=by rw[hl];simp
  clear hl
  go_enter Tryz.func35,Tryz.ntmps35
  go_wp2
  go_loopw [5] (fun c wr=>∃ k:Nat,k≤a.length∧c=.int .i64 k∧Hid ((List.range k).all (fun i=>decide (a.getD i []=b.getD i []))=true)∧Chg [] w wr) (fun c _=>a.length - (intOf c).toNat)
  case atStart=>exact⟨0,Nat.zero_le _,rfl,rfl,Chg.refl _ _⟩
  case round =>
   obtain⟨k,hk,rfl,hall,hc⟩:=hrel;have HC:=lh hc;by_cases hlt:k<a.length
   ·have hkb:k<b.length:=by have:=HL.out;omega
    obtain⟨g1,o1,u1,c1,rfl,m1,r1⟩:=(HA.out.fresh hc).row hlt;obtain⟨g2,o2,u2,c2,rfl,m2,r2⟩:=(HB.out.fresh hc).row hkb;have HF:=lh (fun h=>aA.cW (p:=fun i=>decide (a.getD i []=b.getD i [])) hlt h);have HS:=lh (aA.dB (fun i=>decide (a.getD i []=b.getD i [])) k);obtain⟨x,hx⟩:∃ x,a.getD k []=x:=⟨_,rfl⟩;obtain⟨y,hy⟩:∃ y,b.getD k []=y:=⟨_,rfl⟩;rw[hx] at m1 r1;rw[hy] at m2 r2;have HX:=lh hx;have HY:=lh hy;have R1:=lh r1;have R2:=lh r2;clear hc hx hy r1 r2;go_wp2;have hS0:Chg [] wr wr.drew:=(Chg.refl [] wr).drew;refine aF (Chg [] wr) [0,1,2,3,4,5,6,7,9] (Way.line [0,1,2,3,4,5,6,7,8,9] .done) (by kernel_rfl) (by kernel_rfl) ?_;simp only[Way.line]
    repeat
     first
      | (refine aE rfl (by rfl) (by rfl) (fun _ _ _ h=>h) hS0 ?_;simp only[Act.put,Z1,Z2,Z3,Z4,Z5,Z6])
      | (refine aC (v:=?_) rfl (by rfl) (by rfl) (fun _ _ _ h=>h) hS0 (fun w' hS'=>?_) ?_;rotate_left;(focus (have rd0:=hS'.c m1;have rd1:=hS'.c m2;clear hS';go_simp;try with_reducible rfl));simp only[Act.put,Z1,Z2,Z3,Z4,Z5,Z6])
      | (refine aD rfl (by rfl) (by rfl) hS0 ?_;simp only[Act.put,Z1,Z2,Z3,Z4,Z5,Z6])
    refine aI rfl (by rfl) (by rfl) (fun K hK=>?_);go_simp;refine (sT _ _ x y _ (R1.out.fresh hS0) (R2.out.fresh hS0)).mono ?_;rintro e w3 ⟨rfl,hcx⟩;have hS1:=hS0.t hcx;clear hS0 hcx;have hS0:=hS1;clear hS1;refine hK.out _ _ (fun _=>hS0) ?_;clear hK K
    try simp only[Act.put,Z1,Z2,Z3,Z4,Z5,Z6]
    repeat
     first
      | (refine aE rfl (by rfl) (by rfl) (fun _ _ _ h=>h) hS0 ?_;simp only[Act.put,Z1,Z2,Z3,Z4,Z5,Z6])
      | (refine aC (v:=?_) rfl (by rfl) (by rfl) (fun _ _ _ h=>h) hS0 (fun w' hS'=>?_) ?_;rotate_left;(focus (have rd0:=hS'.c m1;have rd1:=hS'.c m2;clear hS';go_simp;try with_reducible rfl));simp only[Act.put,Z1,Z2,Z3,Z4,Z5,Z6])
      | (refine aD rfl (by rfl) (by rfl) hS0 ?_;simp only[Act.put,Z1,Z2,Z3,Z4,Z5,Z6])
    refine aG ?_;have HC3:=lh (HC.out.t hS0);clear hS0 m1 m2;by_cases q:x=y
    ·rw[decide_eq_true q]
     have HK2:=lh (show (List.range (k+1)).all (fun i=>decide (a.getD i []=b.getD i []))=true by rw[HS.out,hall.out,HX.out,HY.out];simp[q]);clear q;go_wp2
     go_roundw
     case rel=>exact⟨k+1,by omega,by go_num,HK2,HC3.out⟩
     case measure=>simp[intOf];omega
    rw[decide_eq_false q];have HE2:=lh (show decide (a=b)=false by rw[←HE.out];exact HF.out (by rw[HX.out,HY.out];exact decide_eq_false q));clear q;go_wp2;go_ret;exact⟨bK HE2.out.symm,HC3.out⟩
   have e:k=a.length:=by omega
   subst e;have HE2:=lh (HE.out.symm.trans hall.out);clear hc;go_wp2;go_ret;exact⟨bK HE2.out.symm,HC.out⟩
 have HE:=lh (show decide (a=b)=false from decide_eq_false (fun e=>hl (by rw[e])));have hb0:((a.length:Int) != (b.length:Int))=true:=by simp only[bne_iff_ne];omega
 clear hl
 go_enter Tryz.func35,Tryz.ntmps35
 go_wp2;go_ret;exact⟨bK HE.out.symm,Chg.refl _ _⟩
end Go.Proofs.YtkacjmoamgjfpaaGreat
namespace Go.Proofs.YtkacjmoamgjfpaaGreat.aA
theorem aDC {p q:Int→Int} {c:List Int} (h:Ring p c) (k:Ring q c):∀ x∈c,p x=q x:=by
 cases c with
 | nil=>simp
 | cons a l =>
  have e:=(Trail.map (show Trail p a l a from h)).trans (Trail.map (show Trail q a l a from k)).symm;exact fun x hx=>List.map_inj_left.1 e x hx
theorem aDo {a b:List Int} (hn:(a++b).Nodup):∀ x∈a++b,ahead (b++a) x=ahead (a++b) x:=by
 intro x hx;have hn2:(b++a).Nodup:=(List.perm_append_comm).nodup_iff.1 hn;by_cases ha:a=[]
 ·subst ha;simp
 by_cases hb:b=[]
 ·subst hb;simp
 have h1:=qW hn (by simp[ha]);have h2:=qW hn2 (by simp[ha]);rw[List.reverse_append] at h1 h2;obtain⟨u,r,hr⟩:=List.exists_cons_of_ne_nil (show a.reverse≠[] by simpa using ha);obtain⟨v,s,hs⟩:=List.exists_cons_of_ne_nil (show b.reverse≠[] by simpa using hb);rw[hr,hs] at h1 h2;have h3:=Ring.aB (p:=ahead (a++b)) (l:=s) (m:=r) (x:=v) (y:=u) h1;have:=aDC h2 h3 x (by
  rw[←hr,←hs,List.mem_append,List.mem_reverse,List.mem_reverse];exact List.mem_append.1 hx)
 exact this
theorem uS (l:List Int):∃ a b,l=a++b∧first l=b++a:=⟨l.take (lst l l.length),l.drop (lst l l.length),(List.take_append_drop _ _).symm,rfl⟩
theorem gQ (l:List Int):(first l).Perm l:=by
 obtain⟨a,b,e1,e2⟩:=uS l;rw[e2];exact List.perm_append_comm.trans (List.Perm.of_eq e1.symm)
theorem aBU (l:List Int):(first l).isEmpty=l.isEmpty:=by
 have:=(gQ l).length_eq;cases h:first l <;> cases h2:l <;> simp_all
theorem aA9 {l:List Int} (hn:l.Nodup):∀ x∈l,ahead (first l) x=ahead l x:=by
 obtain⟨a,b,e1,e2⟩:=uS l;rw[e2];rw[e1] at hn ⊢;exact aDo hn
theorem jQ (aB:List (List Int)) (v:Int):aX (aB.map first) v=first (aX aB v):=by
 unfold aX List.getD;rw[List.getElem?_map];cases aB[v.toNat]? <;> rfl
theorem aW.first {g:Gr} {p:Pt} {aB:List (List Int)} (h:aW g p aB):aW g p (aB.map aA.first):=by
 refine⟨by rw[List.length_map];exact h.len,fun v=>?_,fun v h0 hn d=>?_⟩
 ·rw[jQ];exact (gQ _).nodup_iff.2 (h.nodup v)
 rw[jQ,(gQ _).mem_iff];exact h.mem v h0 hn d
theorem yD {g:Gr} {p:Pt} {aB:List (List Int)}:aW g p (aB.map aA.first)↔aW g p aB:=by
 refine⟨fun h=>⟨by rw[←List.length_map (f:=aA.first)];exact h.len,fun v=>?_,fun v h0 hn d=>?_⟩,fun h=>h.first⟩
 ·have:=h.nodup v
  rw[jQ] at this;exact (gQ _).nodup_iff.1 this
 have:=h.mem v h0 hn d;rw[jQ,(gQ _).mem_iff] at this;exact this
theorem aDD {g:Gr} {p:Pt} {aB:List (List Int)} (hp:bB g p) (h:aW g p aB) {d:Int} (hd:d∈p.aK):bT g (aB.map aA.first) d=bT g aB d:=by
 unfold bT before;rw[jQ];have ht:=jD hd;have hv:=hp.vr _ (hp.dN ht).1;exact aA9 (h.nodup _) _ ((h.mem _ hv.1 hv.2 _).2 ⟨ht,rfl⟩)
theorem aAl (aB:List (List Int)) (l:List Int):bW (aB.map aA.first) l=bW aB l:=by
 unfold bW
 congr 1
 refine List.filter_congr fun v _=>?_;rw[jQ,aBU]
theorem Trk.first {g:Gr} {p:Pt} {aB:List (List Int)} {F:List aO} {pre:List Int} (hp:bB g p) (ht:aW g p aB) (h:Trk g p aB F pre):Trk g p (aB.map aA.first) F pre :=
 ⟨h.rings.congr fun x hx=>(aDD hp ht (h.sub x hx)).symm,h.sub,h.key,h.keys,h.least,h.cover⟩
theorem bV.first {g:Gr} {p:Pt} {aB:List (List Int)} {W:List aO} (hp:bB g p) (ht:aW g p aB) (h:bV g p aB W):bV g p (aB.map aA.first) W:=by
 obtain⟨F,e,k⟩:=h.split;rw[e,←aAl aB];exact (k.first hp ht).walks hp
theorem bS {g:Gr} {p:Pt} {aB:List (List Int)} (hpe:p.err g=0) (hto:aW g p aB):bV g p aB (aH g p aB):=by
 rw[←qT hpe hto];exact (vK (Pt.aQ hpe) (cI (Pt.aV hpe).2.2.1) hto).walks (Pt.aQ hpe)
theorem uV {g:Gr} {p:Pt} {aB:List (List Int)} (hpe:p.err g=0) (hto:aW g p aB):aH g p (aB.map aA.first)=aH g p aB :=
 (((bS hpe hto).first (Pt.aQ hpe) hto).eq hpe).symm
theorem lU (g:Gr) (p:Pt) (aB:List (List Int)):bE g p (aB.map aA.first)=bE g p aB:=by
 by_cases hpe:p.err g=0
 ·by_cases h:aW g p aB
  ·rw[fV hpe h,fV hpe h.first]
  rw[eK hpe h,eK hpe fun k=>h (yD.1 k)]
 rw[gX hpe,gX hpe]
theorem lW (g:Gr) (p:Pt) (aB:List (List Int)):cD g p (aB.map aA.first)=cD g p aB:=by
 by_cases h:bE g p aB=0
 ·obtain⟨hpe,hto⟩:=bC h
  have h2:bE g p (aB.map aA.first)=0:=(lU g p aB).trans h;have hw:=uV hpe hto;by_cases hf:Flat g p aB
  ·rw[gR h hf,gR h2 (by unfold Flat;rw[hw];exact hf)]
  rw[kC h hf,kC h2 (by unfold Flat;rw[hw];exact hf)]
 rw[fN h,fN (by rw[lU];exact h),lU]
theorem qJ (g:Gr) (p:Pt) (aB same:List (List Int)):aN g p (aB.map aA.first) same=aN g p aB same:=by
 by_cases h:cD g p aB=0
 ·obtain⟨hte,-⟩:=bY h
  obtain⟨hpe,hto⟩:=bC hte;rw[fM h,fM ((lW g p aB).trans h),uV hpe hto]
 rw[iA h,iA (by rw[lW];exact h),lW]
noncomputable def vB (g:Gr) (p:Pt) (aB:List (List Int)):Int:=if cD g p aB≠0 then cD g p aB else if (roots g p).length≤1 then 0 else 10
theorem aE9 {g:Gr} {p:Pt} {aB:List (List Int)} (h:vB g p aB=0):aN g p (aB.map aA.first) []=0:=by
 unfold vB at h;split at h
 ·rename_i q;exact absurd h q
 rename_i q;have q:cD g p aB=0:=Classical.byContradiction q;split at h
 ·rename_i q2
  rw[qJ,fM q];have:=(kJ.start (fun _=>none) (roots g p).length).num;simp only[List.length_nil,Nat.add_zero] at this;show (if 1<(St.new (bJ (roots g p).length)).count then (7:Int) else 0)=0;rw[if_neg];have h2:(St.new (bJ (roots g p).length)).count=(roots g p).length:=this;omega
 cases h
end Go.Proofs.YtkacjmoamgjfpaaGreat.aA
namespace Go.Proofs.YtkacjmoamgjfpaaGreat
open Go.RowKit Go.Maps
namespace aA
theorem aHm {W:List aO} (hk:(W.map (·.1)).Pairwise (·<·)) {f f':aO} (hf:f∈W) (hf':f'∈W) (e:f.1=f'.1):f=f':=by
 obtain⟨i,hi,rfl⟩:=List.getElem_of_mem hf;obtain⟨j,hj,rfl⟩:=List.getElem_of_mem hf';rw[List.pairwise_map,List.pairwise_iff_getElem] at hk;rcases Nat.lt_trichotomy i j with h | h | h
 ·have:=hk i j hi hj h;omega
 ·subst h;rfl
 have:=hk j i hj hi h;omega
def lE (W:List aO) (key:Int):Option Nat:=W.findIdx? fun f=>decide (f.1=key)
theorem aES {W:List aO} {key:Int} {k:Nat} (hk:k<W.length) (h:∀ i,i<k→(W.getD i (0,[])).1≠key) (hin:(W.getD k (0,[])).1=key):lE W key=some k:=by
 unfold lE;rw[List.findIdx?_eq_some_iff_getElem];refine⟨hk,decide_eq_true (by simpa[List.getD,hk] using hin),fun j hj=>?_⟩;have:=h j hj;have hjl:j<W.length:=by omega
 simpa[List.getD,hjl] using this
theorem aGa {W:List aO} {key:Int} (h:∀ i,i<W.length→(W.getD i (0,[])).1≠key):lE W key=none:=by
 unfold lE;rw[List.findIdx?_eq_none_iff];intro f hf;obtain⟨i,hi,rfl⟩:=List.getElem_of_mem hf;have:=h i hi;simpa[List.getD,hi] using this
theorem xB {W:List aO} {key:Int} {k:Nat} (h:lE W key=some k):k<W.length∧(W.getD k (0,[])).1=key:=by
 unfold lE at h;rw[List.findIdx?_eq_some_iff_getElem] at h;obtain⟨h1,h2,-⟩:=h;exact⟨h1,by simpa[List.getD,h1] using h2⟩
theorem tC {g:Gr} {p:Pt} {W:List aO} (hk:(W.map (·.1)).Pairwise (·<·)) {key:Int} :
  (lE W key=none→bH g p W key=none)∧∀ k,lE W key=some k→bH g p W key=some ((bO g p ((W.getD k (0,[])).aY g):Nat):Int):=by
 constructor
 ·intro h
  unfold lE at h;rw[List.findIdx?_eq_none_iff] at h;unfold bH;rw[List.find?_eq_none.2 (fun f hf=>by simpa using h f hf)];rfl
 intro k h;obtain⟨h1,h2⟩:=xB h;have hm:W.getD k (0,[])∈W:=by simp[List.getD,h1]
 unfold bH;cases hf:W.find? fun f=>decide (f.1=key) with
 | none =>
  rw[List.find?_eq_none] at hf;exact absurd (decide_eq_true h2) (hf _ hm)
 | some f =>
  have e:f.1=key:=by have:=List.find?_some hf;simpa using this
  have:=aHm hk (List.mem_of_find?_eq_some hf) hm (e.trans h2.symm);rw[this];rfl
theorem aBb {g:Gr} {p:Pt} {v:Int} {k:Nat} (hk:k<(roots g p).length) (h:∀ i,i<k→v ∉ comp g p ((roots g p).getD i 0)) (hin:v∈comp g p ((roots g p).getD k 0)):bO g p v=k:=by
 unfold bO;rw[List.findIdx_eq hk];refine⟨decide_eq_true (by simpa[List.getD,hk] using hin),fun j hj=>?_⟩;have hjl:j<(roots g p).length:=by omega
 have:=h j hj;simpa[List.getD,hjl] using this
end aA
set_option maxRecDepth 100000 in
set_option maxHeartbeats 2000000 in
theorem pC (ov:Value) (W:List aA.aO) (xs:List Value) (key:Int) (B:Nat) (w:World) (hl:W.length<1000000000) (h:dL w B 90 2 ov W.length xs (dI W)) :
  Calls Tryz.prog 83 #[ov,.int .i64 key] w fun e w'=>e=.returned (.int .i64 (aBu (aA.lE W key)))∧Chg [] w w':=by
 have HN:=lh h;obtain⟨oo,oc,rfl⟩:=h.shape;clear h
 go_enter Tryz.func83,Tryz.ntmps83
 go_wp2
 go_loopw [5] (fun c wr=>∃ k:Nat,k≤W.length∧c=.int .i64 k∧Hid (∀ i,i<k→(W.getD i (0,[])).1≠key)∧Chg [] w wr) (fun c _=>W.length - (intOf c).toNat)
 case atStart=>exact⟨0,Nat.zero_le _,rfl,lh (by omega),Chg.refl _ _⟩
 case round =>
  obtain⟨k,hk,rfl,hno,hc⟩:=hrel;have HC:=lh hc;by_cases hlt:k<W.length
  ·obtain⟨wg,wcc,fa,fc,ewo,m0,-,-⟩:=fZ HN.out rfl hlt
   simp only[Value.slice.injEq] at ewo;obtain⟨rfl,-,rfl⟩:=ewo;have f0:=hc.c m0;have HH:=lh (fun h=>aA.aES (key:=key) hlt hno.out h);have HNO:=lh (fun (h:(W.getD k (0,[])).1≠key) i (hi:i<k+1)=>show (W.getD i (0,[])).1≠key from by
    by_cases e:i=k
    ·rw[e];exact h
    exact hno.out i (by omega))
   obtain⟨z,hz⟩:∃ z,(W.getD k (0,[])).1=z:=⟨_,rfl⟩;rw[hz] at f0 HH HNO;clear m0 hc hz;by_cases q:z=key
   ·have b1:(z==key)=true:=by rw[beq_iff_eq];exact q
    have HE:=lh (HH.out q);clear q;go_wp2;go_ret;exact⟨aS (by rw[HE.out];rfl),HC.out⟩
   have b1:(z==key)=false:=by rw[beq_eq_false_iff_ne];exact q
   have HE:=lh (HNO.out q);clear q;go_wp2
   go_roundw
   case rel=>exact⟨k+1,by omega,by go_num,HE,HC.out⟩
   case measure=>simp[intOf];omega
  have e:k=W.length:=by omega
  subst e;have HE:=lh (aA.aGa hno.out);clear hc;go_wp2;go_ret;exact⟨aS (by rw[HE.out];rfl),HC.out⟩
set_option maxRecDepth 100000 in
set_option maxHeartbeats 4000000 in
theorem sJ (vg pv:Value) (g:aA.Gr) (p:aA.Pt) (aB:List (List Int)) (f:aA.aO) (u:Value) (px:List Value) (B:Nat) (w:World) (hpv:p.v.length≤1000) (hpe:p.err g=0) (hW:aA.bV g p aB (aA.aH g p aB)) (hf:f∈aA.aH g p aB) (hu:∃ a n c,u=.slice a n c) (hg:dW w vg g) {nn:Nat} (hnn:nn=(aA.roots g p).length)
  (hn:dL w B 29 2 pv nn px (pcs (aA.comp g p) (fun r=>(p.sub g (aA.comp g p r)).e) (aA.roots g p))) :
  Calls Tryz.prog 84 #[vg,pv,.agg #[.int .i64 f.1,u]] w fun e w'=>e=.returned (.int .i64 (aA.bO g p (f.aY g):Nat))∧Chg [] w w':=by
 subst hnn;have HPO:=aA.Pt.aQ hpe;have hcm:=aA.dG HPO hW.eF f hf;have hex:=aA.kT (g:=g) (fun v hv=>(HPO.vr v hv).1) hcm;have HHIT:=lh (fun k hk h hin=>aA.aBb (g:=g) (p:=p) (v:=f.aY g) (k:=k) hk h hin);have HEX:=lh (show ∃ i,i<(aA.roots g p).length∧f.aY g∈aA.comp g p ((aA.roots g p).getD i 0) from by
  obtain⟨r,hr,hc⟩:=hex;obtain⟨i,hi,rfl⟩:=aA.cS hr;exact⟨i,hi,aA.bZ.2 ⟨hcm,hc⟩⟩)
 have hrl2:(aA.roots g p).length≤1000:=by rw[←aA.eL];exact Nat.le_trans (aA.dY g p _) hpv
 have HG:=lh hg;have HN:=lh hn;have HPE:=lh hpe;have HW:=lh hW;have HF:=lh hf;obtain⟨po,pc,rfl⟩:=hn.shape;obtain⟨ua,un,uc,rfl⟩:=hu;obtain⟨eo,cap,rfl,-,-,-,-⟩:=hg;obtain⟨hb1,hb2,hc1⟩:=cK w #[.int .i64 g.n,.slice eo g.e.length cap] #[.int .i64 f.1,.slice ua un uc] 24 90;have X0:=lh ((cell_of_row _ _ 0 _ _ _ hb1).trans (show _=some (Value.int .i64 g.n) from rfl));have X1:=lh ((cell_of_row _ _ 1 _ _ _ hb1).trans (show _=some (Value.slice eo g.e.length cap) from rfl));have Y0:=lh ((cell_of_row _ _ 0 _ _ _ hb2).trans (show _=some (Value.int .i64 f.1) from rfl));have Y1:=lh ((cell_of_row _ _ 1 _ _ _ hb2).trans (show _=some (Value.slice ua un uc) from rfl));have HC1:=lh hc1;obtain⟨R,hR⟩:∃ R,aA.roots g p=R:=⟨_,rfl⟩;rw[hR] at HHIT HEX hrl2 HN ⊢;clear HPO hcm hex hn hpe hW hf hb1 hb2 hc1 hR
 go_enter Tryz.func84,Tryz.ntmps84
 go_wp2;generalize ((w.alloc (.cells #[.int .i64 g.n,.slice eo g.e.length cap] 24)).alloc (.cells #[.int .i64 f.1,.slice ua un uc] 90))=w1 at *
 go_loopw [7] (fun c wr=>∃ k:Nat,k≤R.length∧c=.int .i64 k∧Hid (∀ i,i<k→f.aY g ∉ aA.comp g p (R.getD i 0))∧Chg [] w1 wr) (fun c _=>R.length - (intOf c).toNat)
 case atStart=>exact⟨0,Nat.zero_le _,rfl,lh (by omega),Chg.refl _ _⟩
 case round =>
  obtain⟨k,hk,rfl,hno,hc⟩:=hrel;have HC:=lh hc;have HCW:=lh (HC1.out.t hc);by_cases hlt:k<R.length
  ·obtain⟨pg,pcc,va,vc,ea,ec,epo,n0,n1,nr0,-⟩:=mG HN.out rfl hlt
   simp only[Value.slice.injEq] at epo;obtain⟨rfl,-,rfl⟩:=epo;have p0:=HCW.out.c n0;have x0:=hc.c X0.out;have x1:=hc.c X1.out;have y0:=hc.c Y0.out;have y1:=hc.c Y1.out;have NR:=lh nr0;have HH:=lh (fun h=>HHIT.out k hlt hno.out h);have HNO:=lh (fun (h:f.aY g ∉ aA.comp g p (R.getD k 0)) i (hi:i<k+1)=>show f.aY g ∉ aA.comp g p (R.getD i 0) from by
    by_cases e:i=k
    ·rw[e];exact h
    exact hno.out i (by omega))
   obtain⟨C,hC⟩:∃ C,aA.comp g p (R.getD k 0)=C:=⟨_,rfl⟩;rw[hC] at p0 NR HH HNO;clear n0 n1 nr0 hc hC;go_wp2;have hS0:Chg [] wr wr.drew:=(Chg.refl [] wr).drew;refine aF (Chg [] wr) [0,1,2,3,4,5,6] (Way.line [0,1,2,3,4,5,6,7,8] .done) (by kernel_rfl) (by kernel_rfl) ?_;simp only[Way.line]
   repeat
    first
     | (refine aE rfl (by rfl) (by rfl) (fun _ _ _ h=>h) hS0 ?_;simp only[Act.put,Z1,Z2,Z3,Z4,Z5,Z6])
     | (refine aC (v:=?_) rfl (by rfl) (by rfl) (fun _ _ _ h=>h) hS0 (fun w' hS'=>?_) ?_;rotate_left;(focus (have rd0:=hS'.c x0;have rd1:=hS'.c x1;have rd2:=hS'.c y0;have rd3:=hS'.c y1;have rd4:=hS'.c p0;clear hS';go_simp;try with_reducible rfl));simp only[Act.put,Z1,Z2,Z3,Z4,Z5,Z6])
     | (refine aD rfl (by rfl) (by rfl) hS0 ?_;simp only[Act.put,Z1,Z2,Z3,Z4,Z5,Z6])
   refine aI rfl (by rfl) (by rfl) (fun K hK=>?_);go_simp;refine (qC _ g p aB f _ _ HPE.out HW.out HF.out (HG.out.fresh (HCW.out.t hS0))).mono ?_;rintro e w6 ⟨rfl,hcx⟩;have hS1:=hS0.t hcx;clear hS0 hcx;have hS0:=hS1;clear hS1;refine hK.out _ _ (fun _=>hS0) ?_;clear hK K
   try simp only[Act.put,Z1,Z2,Z3,Z4,Z5,Z6]
   refine aI rfl (by rfl) (by rfl) (fun K hK=>?_);go_simp;refine (gD _ C (f.aY g) _ ((NR.out.ints).fresh (HCW.out.t hS0))).mono ?_;rintro e w7 ⟨rfl,hcx⟩;have hS1:=hS0.t hcx;clear hS0 hcx;have hS0:=hS1;clear hS1;refine hK.out _ _ (fun _=>hS0) ?_;clear hK K
   try simp only[Act.put,Z1,Z2,Z3,Z4,Z5,Z6]
   refine aG ?_;have HC7:=lh (HC.out.t hS0);have HCF:=lh (HCW.out.t hS0);clear x0 x1 y0 y1 p0 hS0;by_cases q:f.aY g∈C
   ·rw[decide_eq_true q]
    have HE:=lh (HH.out q);clear q;go_wp2;go_ret;exact⟨aS (by rw[HE.out]),HCF.out⟩
   rw[decide_eq_false q];have HE:=lh (HNO.out q);clear q;go_wp2
   go_roundw
   case rel=>exact⟨k+1,by omega,by go_num,HE,HC7.out⟩
   case measure=>simp[intOf];omega
  exfalso;obtain⟨i,hi,hin⟩:=HEX.out;exact hno.out i (by omega) hin
end Go.Proofs.YtkacjmoamgjfpaaGreat
namespace Go.Proofs.YtkacjmoamgjfpaaGreat.aA
theorem nS {ow:Int→Option Int} {same:List (List Int)} {st:List Nat × List Int} {k:Nat} (h:iD ow same st k=none):∀ n,k≤n→iD ow same st n=none
 | 0,hk=>by
  have:k=0:=by omega
  subst this;exact h
 | n+1,hk=>by
  by_cases e:k=n+1
  ·subst e;exact h
  show (iD ow same st n).bind _=none;rw[nS h n (by omega)];rfl
theorem rT {ow:Int→Option Int} {l:List Int} {grp:List Nat} {k:Nat} (h:dD ow l grp k=none):∀ n,k≤n→dD ow l grp n=none
 | 0,hk=>by
  have:k=0:=by omega
  subst this;exact h
 | n+1,hk=>by
  by_cases e:k=n+1
  ·subst e;exact h
  show (dD ow l grp n).bind _=none;rw[rT h n (by omega)];rfl
theorem aBw {ow:Int→Option Int} {l met:List Int} {k n:Nat} (h:gP ow l met n) (hk:k≤n):gP ow l met k:=fun i hi=>h i (by omega)
noncomputable abbrev kK (g:Gr) (p:Pt) (aB same:List (List Int)) (i:Nat):Option (List Nat × List Int):=iD (bH g p (aH g p aB)) same (List.range (roots g p).length,[]) i
theorem lD {g:Gr} {p:Pt} {aB same:List (List Int)} {i:Nat} {c:List Nat × List Int} (h:kK g p aB same i=some c) :
  kK g p aB same (i+1)=if bX same i then none else if gP (bH g p (aH g p aB)) (same.getD i []) c.2 (same.getD i []).length then (dD (bH g p (aH g p aB)) (same.getD i []) c.1 (same.getD i []).length).map fun q=>(q,c.2++same.getD i []) else none:=by
 show (iD _ _ _ i).bind _=_;rw[show iD (bH g p (aH g p aB)) same (List.range (roots g p).length,[]) i=some c from h];rfl
theorem qO {g:Gr} {p:Pt} {aB same:List (List Int)} {i:Nat} (hf:cD g p aB=0) (hi:i≤same.length) (h:kK g p aB same i=none):aN g p aB same=7:=by
 obtain⟨hpe,hto⟩:=bC (bY hf).1;rw[uK hf (Pt.aQ hpe) (bS hpe hto),nS h _ hi]
theorem aEF {g:Gr} {p:Pt} {aB same:List (List Int)} {i:Nat} {c:List Nat × List Int} (hf:cD g p aB=0) (hi:i<same.length) (h:kK g p aB same i=some c) (hb:bX same i):aN g p aB same=7 :=
 qO hf hi (by rw[lD h,if_pos hb])
theorem aEV {g:Gr} {p:Pt} {aB same:List (List Int)} {i k:Nat} {c:List Nat × List Int} (hf:cD g p aB=0) (hi:i<same.length) (h:kK g p aB same i=some c) (hk:k<(same.getD i []).length)
  (hb:¬ gP (bH g p (aH g p aB)) (same.getD i []) c.2 (k+1)):aN g p aB same=7 :=
 qO hf hi (by
  rw[lD h];split
  ·rfl
  rw[if_neg fun q=>hb (aBw q hk)])
theorem aCK {g:Gr} {p:Pt} {aB same:List (List Int)} {i k:Nat} {c:List Nat × List Int} (hf:cD g p aB=0) (hi:i<same.length) (h:kK g p aB same i=some c) (hk:k<(same.getD i []).length)
  (hb:dD (bH g p (aH g p aB)) (same.getD i []) c.1 (k+1)=none):aN g p aB same=7 :=
 qO hf hi (by
  rw[lD h,rT hb _ hk];split
  ·rfl
  split <;> rfl)
theorem aC8 {g:Gr} {p:Pt} {aB same:List (List Int)} {i:Nat} {c:List Nat × List Int} {q:List Nat} (h:kK g p aB same i=some c) (hb:¬ bX same i)
  (hk:gP (bH g p (aH g p aB)) (same.getD i []) c.2 (same.getD i []).length) (hj:dD (bH g p (aH g p aB)) (same.getD i []) c.1 (same.getD i []).length=some q):kK g p aB same (i+1)=some (q,c.2++same.getD i []):=by
 rw[lD h,if_neg hb,if_pos hk,hj];rfl
theorem aEs {g:Gr} {p:Pt} {aB same:List (List Int)} {c:List Nat × List Int} (hf:cD g p aB=0) (h:kK g p aB same same.length=some c) :
  (∀ i,i<c.1.length→c.1.getD i 0≠c.1.getD 0 0→aN g p aB same=7)∧((∀ i,i<c.1.length→c.1.getD i 0=c.1.getD 0 0)→aN g p aB same=0):=by
 classical
 obtain⟨hpe,hto⟩:=bC (bY hf).1;have e:=uK (same:=same) hf (Pt.aQ hpe) (bS hpe hto);rw[show iD (bH g p (aH g p aB)) same (List.range (roots g p).length,[]) same.length=some c from h] at e;constructor
 ·intro i hi hne
  rw[e];show (if sC c.1 then (7:Int) else 0)=7;rw[if_pos ⟨i,hi,hne⟩]
 intro hall;rw[e];show (if sC c.1 then (7:Int) else 0)=0;rw[if_neg];rintro ⟨i,hi,hne⟩;exact hne (hall i hi)
theorem aEB {g:Gr} {p:Pt} {aB same:List (List Int)} (hb:∀ y a,bH g p (aH g p aB) y=some a→0≤a∧a<((roots g p).length:Int)):∀ (i:Nat) (c:List Nat × List Int),kK g p aB same i=some c→c.1.length=(roots g p).length:=by
 intro i c h;obtain⟨r1,r2⟩:=sO (same:=same) hb i;cases hm:cB (bH g p (aH g p aB)) same (St.new (bJ (roots g p).length),[]) i with
 | none=>have h2:=r2 hm;rw[show iD _ same _ i=some c from h] at h2;cases h2
 | some d =>
  obtain⟨q,hq,hA⟩:=r1 d hm;rw[show iD _ same _ i=some c from h] at hq;cases hq;exact hA.len
theorem aBB (a b:Nat) (grp:List Nat):(fW a b grp).length=grp.length:=by unfold fW;rw[List.length_map]
theorem uE {ow:Int→Option Int} {l:List Int} {grp:List Nat}:∀ (k:Nat) (q:List Nat),dD ow l grp k=some q→q.length=grp.length
 | 0,q,h=>by cases h;rfl
 | k+1,q,h=>by
  have h:(dD ow l grp k).bind _=some q:=h;cases hm:dD ow l grp k with
  | none=>rw[hm] at h;cases h
  | some r =>
   rw[hm] at h;have ih:=uE k r hm;have h:(if k=0 then some r else if eC ow r (l.getD 0 0)=eC ow r (l.getD k 0) then none else some (fW (eC ow r (l.getD 0 0)) (eC ow r (l.getD k 0)) r))=some q:=h;split at h
   ·cases h;exact ih
   split at h
   ·cases h
   cases h;rw[aBB];exact ih
theorem aAu {ow:Int→Option Int} {l:List Int} {grp q:List Nat} {k:Nat} (hk:0<k) (h:dD ow l grp k=some q) :
  (eC ow q (l.getD 0 0)=eC ow q (l.getD k 0)→dD ow l grp (k+1)=none)∧(eC ow q (l.getD 0 0)≠eC ow q (l.getD k 0)→dD ow l grp (k+1)=some (fW (eC ow q (l.getD 0 0)) (eC ow q (l.getD k 0)) q)):=by
 have e:dD ow l grp (k+1)=if k=0 then some q else if eC ow q (l.getD 0 0)=eC ow q (l.getD k 0) then none else some (fW (eC ow q (l.getD 0 0)) (eC ow q (l.getD k 0)) q):=by
  show (dD ow l grp k).bind _=_;rw[h];rfl
 rw[if_neg (by omega)] at e;exact⟨fun q2=>by rw[e,if_pos q2],fun q2=>by rw[e,if_neg q2]⟩
theorem aBA (ow:Int→Option Int) (l:List Int) (grp:List Nat):dD ow l grp 1=some grp:=rfl
def iE (a b:Nat) (grp:List Nat) (j:Nat):List Nat:=(grp.take j).map (fun x=>if x=b then a else x)++grp.drop j
theorem aCe (a b:Nat) (grp:List Nat):iE a b grp 0=grp:=by simp[iE]
theorem aCV (a b:Nat) (grp:List Nat):iE a b grp grp.length=fW a b grp:=by simp[iE,fW]
theorem qR (a b:Nat) (grp:List Nat) (j:Nat):(iE a b grp j).length=grp.length:=by unfold iE;simp;omega
theorem aFp {a b:Nat} {grp:List Nat} {j:Nat} (hj:j<grp.length):(iE a b grp j).getD j 0=grp.getD j 0:=by
 unfold iE List.getD;rw[List.getElem?_append_right (by simp;omega)];simp[List.length_take,Nat.min_eq_left (Nat.le_of_lt hj)]
theorem aA3 {a b:Nat} {grp:List Nat} {j:Nat} (hj:j<grp.length):iE a b grp (j+1)=if grp.getD j 0=b then (iE a b grp j).set j a else iE a b grp j:=by
 have hlen:=qR a b grp j;have e1:grp.take (j+1)=grp.take j++[grp[j]]:=List.take_succ_eq_append_getElem hj;have e2:grp.drop j=grp[j] :: grp.drop (j+1):=List.drop_eq_getElem_cons hj;have e3:grp.getD j 0=grp[j]:=by simp[List.getD,hj]
 have hl:((grp.take j).map fun x=>if x=b then a else x).length=j:=by simp;omega
 unfold iE;rw[e1,List.map_append,e3];by_cases h:grp[j]=b
 ·rw[if_pos h,e2]
  rw[List.set_append_right _ _ (by rw[hl];exact Nat.le_refl _),hl,Nat.sub_self];simp[h]
 rw[if_neg h,e2];simp[h]
end Go.Proofs.YtkacjmoamgjfpaaGreat.aA
