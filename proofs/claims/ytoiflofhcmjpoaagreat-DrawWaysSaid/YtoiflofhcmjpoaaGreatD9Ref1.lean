/- ref02.Turned, First; ref06.First, Equal: contracts. Conditions: lists that lie in memory and read so, of a bounded size. -/
import Derived.Test.YtoiflofhcmjpoaaGreatD9RegP
open List renaming mem_map→Qa,mem_append→Qb,exists_cons_of_ne_nil→Qc,pairwise_map→Qf,take_length→Qh,mem_reverse→Qi,range→Qj,getD→Qk
open Classical renaming byContradiction→Qd
open Nat renaming zero_le→Qe,mod_eq_of_lt→Qg
open Go.Act renaming put→Ql
-- READS ONLY
namespace Go.Proofs.YtoiflofhcmjpoaaGreat
open Go.RowKit Go.Maps
namespace Plain
theorem JF {l:List Int} {a k:Nat} (ha:a<l.length) (hk:k<l.length):(l.drop a++l.take a).getD k 0=l.getD ((a+k) % l.length) 0:=by
 unfold Qk;by_cases h:k<l.length - a
 ·rw[List.getElem?_append_left (by simp;omega),List.getElem?_drop,Qg (by omega)]
 rw[List.getElem?_append_right (by simp;omega),List.length_drop,List.getElem?_take,if_pos (by omega)];rw[show (a+k) % l.length=k - (l.length - a) by rw[Nat.mod_eq_sub_mod (by omega),Qg (by omega)];omega]
theorem Fj {l:List Int} {a:Nat} (ha:a<=l.length):(l.drop a++l.take a).length=l.length:=by simp;omega
end Plain
set_option maxRecDepth 100000 in
set_option maxHeartbeats 2000000 in
theorem xr (v:Value) (l:List Int) (a:Nat) (w:World) (ha:a<l.length\/(a=0/\l=[])) (hl:l.length<1000000000) (h:al w v l) :
  Calls Tryz.prog 119 #[v,.int .i64 a] w fun e w'=>∃ ov,e=.returned ov/\aj w' w.heap.size ov (l.drop a++l.take a)/\ag [] w w':=by
 have H:=lh h;have wu:(l.drop a++l.take a).length=l.length:=Plain.Fj (by rcases ha with q | ⟨q,-⟩ <;> omega);have HTA:=lh (fun k (hk:k<l.length)=>Plain.JF (l:=l) (a:=a) (k:=k) (by rcases ha with q | ⟨q,r⟩;exact q;rw[r] at hk;simp at hk) hk);have CR:a<=l.length:=by rcases ha with q | ⟨q,-⟩ <;> omega
 obtain⟨M,hM⟩:∃ M,l.drop a++l.take a=M:=⟨_,rfl⟩;rw[hM] at wu HTA ⊢;have DD:=lh wu;obtain⟨ao,cap,rfl,dK,hm,-⟩:=h;have fZ:=lh dK;clear ha hM wu dK
 go_enter Tryz.func119,Tryz.ntmps119
 go_wp2
 go_loopw [5,6] (fun ov c wr=>∃ k:Nat,k<=l.length/\c=.int .i64 k/\aj wr w.heap.size ov (M.take k)/\ag [] w wr) (fun _ c _=>l.length - (intOf c).toNat)
 case atStart=>exact⟨0,Qe _,rfl,by simpa using eJ _ _,ag.refl _ _⟩
 case round =>
  obtain⟨k,hk,rfl,aJ,hc⟩:=hrel;have bt:=lh aJ;obtain⟨oo,oc,rfl⟩:=aJ.shape;have HC:=lh hc;by_cases aL:k<l.length
  ·have nI:(a+k) % l.length<l.length:=Nat.mod_lt _ (by omega)
   obtain⟨b,off,rfl,cell⟩:=al.cellAt (H.out.fresh hc) nI;have nL:=lh (show M.take (k+1)=M.take k++[l.getD ((a+k) % l.length) 0] by rw[<-HTA.out k aL];exact Plain.kT (by have:=DD.out;omega));have Rx:=lh (fZ.out (l.getD ((a+k) % l.length) 0) (by simp[Qk,nI]));obtain⟨j,hj⟩:∃ j,(a+k) % l.length=j:=⟨_,rfl⟩;have q1:IntKind.i64.wrap ((a:Int)+(k:Int))=(a:Int)+(k:Int):=IntWalk.i64_in _ (by omega);have q2:Int.tmod ((a:Int)+(k:Int)) (l.length:Int)=(j:Int):=by rw[Int.tmod_eq_emod_of_nonneg (by omega),show (a:Int)+(k:Int)=((a+k:Nat):Int) by omega,<-hj];omega
   have q3:((l.length:Int)==0)=false:=by rw[beq_eq_false_iff_ne];omega
   rw[hj] at nI cell nL Rx;obtain⟨z,hz⟩:∃ z,l.getD j 0=z:=⟨_,rfl⟩;rw[hz] at cell nL Rx;have HB:=lh hc.size;have GD:(M.take k).length<4294967290:=by simp;omega
   obtain⟨L,hL⟩:∃ L,M.take k=L:=⟨_,rfl⟩;rw[hL] at bt nL GD ⊢;clear aJ hc hj hz hL
   go_wp2_with (at_builtin;refine gA rfl _ _ rfl (B:=w.heap.size) (v:=.slice oo _ oc) rfl rfl bt.out Rx.out HB.out GD rfl ?_;intro v9 w9 r9 c9 f9;have R9:=lh r9;have C9:=lh c9;clear r9 c9 f9)
   go_roundw
   case rel=>exact⟨k+1,by omega,by go_num,by rw[nL.out];exact R9.out,HC.out.trans C9.out (fun j hj=>Or.inr (by rw[bt.out.aE] at hj;exact (bt.out.low j hj).1))⟩
   case measure=>simp[intOf];omega
  have e:k=l.length:=by omega
  subst e;rw[<-DD.out,Qh] at bt;rw[List.take_of_length_le (by rw[DD.out];omega)];clear aJ hc;obtain⟨n,hn⟩:∃ n,M.length=n:=⟨_,rfl⟩;rw[hn] at bt ⊢;clear hn;go_wp2;go_ret;exact⟨_,rfl,bt.out,HC.out⟩
set_option maxRecDepth 100000 in
set_option maxHeartbeats 2000000 in
theorem zF (v:Value) (l:List Int) (w:World) (hl:l.length<1000000000) (h:al w v l) :
  Calls Tryz.prog 70 #[v] w fun e w'=>∃ ov,e=.returned ov/\aj w' w.heap.size ov (Plain.first l)/\ag [] w w':=by
 have H:=lh h;obtain⟨ao,cap,rfl,dK,hm,-⟩:=h;clear dK
 go_enter Tryz.func70,Tryz.ntmps70
 go_wp2
 go_loopw [3,4] (fun m c wr=>∃ k:Nat,k<=l.length/\c=.int .i64 k/\m=.int .i64 (Plain.mu l k:Nat)/\ag [] w wr) (fun _ c _=>l.length - (intOf c).toNat)
 case atStart=>exact⟨0,Qe _,rfl,rfl,ag.refl _ _⟩
 case round =>
  obtain⟨k,hk,rfl,rfl,hc⟩:=hrel;have HC:=lh hc;by_cases aL:k<l.length
  ·have GD:=Plain.qY (l:=l) (by omega) k hk
   obtain⟨b,off,rfl,ck⟩:=al.cellAt (H.out.fresh hc) aL;obtain⟨b',oH,e,cm⟩:=al.cellAt (H.out.fresh hc) GD;obtain⟨rfl,rfl⟩:b=b'/\off=oH:=by simpa using e
   have Uz:=lh (show Plain.mu l (k+1)=if l.getD k 0<l.getD (Plain.mu l k) 0 then k else Plain.mu l k from rfl);obtain⟨m,jo⟩:∃ m,Plain.mu l k=m:=⟨_,rfl⟩;rw[jo] at GD cm Uz ⊢;obtain⟨x,hx⟩:∃ x,l.getD k 0=x:=⟨_,rfl⟩;obtain⟨y,hy⟩:∃ y,l.getD m 0=y:=⟨_,rfl⟩;rw[hx] at ck Uz;rw[hy] at cm Uz;clear hc e jo hx hy;go_wp2;have aW:ag [] wr wr.drew:=(ag.refl [] wr).drew;refine ar (ag [] wr) [0,1,2,3,4,5,6,7,8] (Way.line [0,1,2,3,4,5,6,7,8] .done) (by kernel_rfl) (by kernel_rfl) ?_;simp only[Way.line]
   repeat (refine ai (v:=?_) rfl (by rfl) (by rfl) (fun _ _ _ h=>h) aW (fun w' aI=>?_) ?_;rotate_left;(focus (have gB:=aI.c ck;have gQ:=aI.c cm;clear aI;go_simp;try with_reducible rfl));simp only[Ql,Z1,Z2,Z3,Z4,Z5,Z6])
   refine aC ?_;have Au:=lh (HC.out.t aW);clear aW ck cm;by_cases q:x<y
   ·have b1:decide (x<y)=true:=decide_eq_true q
    have HE:=lh (Uz.out.trans (if_pos q));clear b1;go_wp2
    go_roundw
    case rel=>exact⟨k+1,by omega,by go_num,by rw[HE.out],Au.out⟩
    case measure=>simp[intOf];omega
   have b1:decide (x<y)=false:=decide_eq_false q;have HE:=lh (Uz.out.trans (if_neg q));clear b1;go_wp2
   go_roundw
   case rel=>exact⟨k+1,by omega,by go_num,by rw[HE.out],Au.out⟩
   case measure=>simp[intOf];omega
  have e:k=l.length:=by omega
  subst e;have S7:Plain.mu l l.length<l.length\/(Plain.mu l l.length=0/\l=[]):=by
   rcases Nat.eq_zero_or_pos l.length with q | q
   ·have:l=[]:=List.length_eq_zero_iff.1 q
    subst this;exact Or.inr ⟨rfl,rfl⟩
   exact Or.inl (Plain.qY q _ (Nat.le_refl _))
  have HF:=lh (show Plain.first l=l.drop (Plain.mu l l.length)++l.take (Plain.mu l l.length) from rfl);have HB:=lh hc.size;obtain⟨m,jo⟩:∃ m,Plain.mu l l.length=m:=⟨_,rfl⟩;rw[jo] at S7 HF ⊢;have XH:=lh S7;clear hc jo S7
  go_wp2_with fail
  refine (xr _ l m _ XH.out hl (H.out.fresh HC.out)).mono ?_;rintro e w2 ⟨ov,rfl,aJ,bA⟩;obtain⟨oo,oc,rfl⟩:=aJ.shape;have HR:=lh (aJ.base HB.out);have qh:=lh (HC.out.t bA);obtain⟨n,hn⟩:∃ n,(l.drop m++l.take m).length=n:=⟨_,rfl⟩;rw[hn] at HR ⊢;clear aJ bA hn;go_wp2;go_ret;exact⟨_,rfl,by rw[HF.out];exact HR.out,qh.out⟩
set_option maxRecDepth 100000 in
set_option maxHeartbeats 2000000 in
theorem xy (vt:Value) (aa:List (List Int)) (w:World) (DK:aa.length<1000000000) (GG:∀ i,(aa.getD i []).length<1000000000) (h:cf w vt aa) :
  Calls Tryz.prog 30 #[vt] w fun e w'=>∃ ov vs,e=.returned ov/\bj w' w.heap.size ov vs (aa.map Plain.first)/\cf w' ov (aa.map Plain.first)/\ag [] w w':=by
 have HT:=lh h;have Sa:=lh GG;obtain⟨UI,tc,rfl,KX,-⟩:=h;clear GG
 go_enter Tryz.func30,Tryz.ntmps30
 go_wp2
 go_loopw [3,4] (fun ov c wr=>∃ (k:Nat) (vs:List Value),k<=aa.length/\c=.int .i64 k/\bj wr w.heap.size ov vs ((aa.take k).map Plain.first)/\Hid (∀ l∈(aa.take k).map Plain.first,(∀ x∈l,aU x)/\l.length<4294967296)/\ag [] w wr) (fun _ c _=>aa.length - (intOf c).toNat)
 case atStart=>exact⟨0,[],Qe _,rfl,by simpa using bj.nil _ _,lh (by simp),ag.refl _ _⟩
 case round =>
  obtain⟨k,vs,hk,rfl,gG,dK,hc⟩:=hrel;have lQ:=lh gG;obtain⟨oo,oc,rfl⟩:=bk gG.out;have sM:vs.length=k:=by rw[gG.len];simp;omega
  have HC:=lh hc;by_cases aL:k<aa.length
  ·obtain⟨tb,IB,uo,uc,rfl,mG,aJ⟩:=(HT.out.fresh hc).row aL
   have Uf:=lh (Plain.ot (f:=Plain.first) aL);have RP:=Sa.out k;obtain⟨T,hT⟩:∃ T,aa.getD k []=T:=⟨_,rfl⟩;rw[hT] at aJ mG Uf RP;have bt:=lh aJ;have HB:=lh hc.size;have vH:=lh sM;obtain⟨n,hn⟩:∃ n,vs.length=n:=⟨_,rfl⟩;have Ys:n<1000000000:=by omega
   have HN:=lh hn;rw[hn];clear gG aJ hc hT sM hn
   go_wp2_with fail
   refine (zF _ T _ RP bt.out).mono ?_;rintro e w3 ⟨v',rfl,Kd,cT⟩;obtain⟨vo,vc,rfl⟩:=Kd.shape;have Li:=lh Kd;have cU:=lh (HC.out.t cT);have Ai:=lh (lQ.out.aD cT (by simp) (by simp));have HX:=lh (yU lQ.out);obtain⟨g5,q5,w5,pf,Ec,eO,-⟩:=Hb Ai.out (by have:=cU.out.size;omega) Li.out HB.out HX.out (by have:=HN.out;omega) (Or.inl rfl) 48;rw[HN.out] at pf Ec eO;have WQ:=lh Ec;have ga:=lh (cU.out.trans eO (fun j hj=>Or.inr (by have:=Ai.out.out.lt j (by rw[HN.out];simpa using hj);exact this.1)));have WL:=lh (show ∀ l∈(aa.take (k+1)).map Plain.first,(∀ x∈l,aU x)/\l.length<4294967296 from fun l hl=>by
    rw[Uf.out,Qb] at hl;rcases hl with q | q
    ·exact dK.out l q
    rw[List.mem_singleton.1 q];exact Li.out.2)
   clear mG Kd cT Ec eO
   go_wp2_with (at_builtin;refine eU rfl (.tmp 11) (.tmp 17) 48 rfl rfl rfl pf ?_)
   go_roundw
   case rel=>exact⟨k+1,_,by omega,by go_num,by rw[Uf.out];exact WQ.out,WL,ga.out⟩
   case measure=>simp[intOf];omega
  have e:k=aa.length:=by omega
  subst e;rw[Qh] at lQ dK;have Aj:=lh (lQ.out.read dK.out);clear gG hc;obtain⟨TT,hTT⟩:∃ TT,aa.map Plain.first=TT:=⟨_,rfl⟩;have JU:=lh hTT;rw[hTT] at lQ Aj;clear hTT;have vH:=lh sM;clear sM;obtain⟨n,hn⟩:∃ n,vs.length=n:=⟨_,rfl⟩;rw[hn] at lQ Aj ⊢;clear hn;go_wp2;go_ret;exact⟨_,vs,rfl,by rw[JU.out];exact lQ.out,by rw[JU.out];exact Aj.out,HC.out⟩
theorem BM {a b:List (List Int)} (hl:a.length=b.length):(Qj a.length).all (fun i=>decide (a.getD i []=b.getD i []))=decide (a=b):=by
 by_cases h:a=b
 ·subst h
  rw[decide_eq_true rfl,List.all_eq_true];simp
 rw[decide_eq_false h,List.all_eq_false];refine Qd fun q=>h (List.ext_getElem hl fun i h1 h2=>?_);refine Qd fun e=>q ⟨i,List.mem_range.2 h1,?_⟩;simpa[Qk,h1,h2] using e
set_option maxRecDepth 100000 in
set_option maxHeartbeats 2000000 in
theorem kC (va vb:Value) (a b:List (List Int)) (w:World) (ha:cf w va a) (hb:cf w vb b) :
  Calls Tryz.prog 31 #[va,vb] w fun e w'=>e=.returned (.bool (decide (a=b)))/\ag [] w w':=by
 have HA:=lh ha;have HB:=lh hb;obtain⟨ao,ac,rfl,DA,-⟩:=ha;obtain⟨bo,bc,rfl,sQ,-⟩:=hb;by_cases hl:a.length=b.length
 ·have HE:=lh (BM hl)
  have HL:=lh hl;have CD:((a.length:Int) != (b.length:Int))=false:=by rw[hl];simp
  clear hl
  go_enter Tryz.func31,Tryz.ntmps31
  go_wp2
  go_loopw [5] (fun c wr=>∃ k:Nat,k<=a.length/\c=.int .i64 k/\Hid ((Qj k).all (fun i=>decide (a.getD i []=b.getD i []))=true)/\ag [] w wr) (fun c _=>a.length - (intOf c).toNat)
  case atStart=>exact⟨0,Qe _,rfl,rfl,ag.refl _ _⟩
  case round =>
   obtain⟨k,hk,rfl,dH,hc⟩:=hrel;have HC:=lh hc;by_cases aL:k<a.length
   ·have hkb:k<b.length:=by have:=HL.out;omega
    obtain⟨g1,o1,u1,c1,rfl,m1,r1⟩:=(HA.out.fresh hc).row aL;obtain⟨g2,o2,u2,c2,rfl,m2,r2⟩:=(HB.out.fresh hc).row hkb;have HF:=lh (fun h=>Plain.dL (p:=fun i=>decide (a.getD i []=b.getD i [])) aL h);have HS:=lh (Plain.eA (fun i=>decide (a.getD i []=b.getD i [])) k);obtain⟨x,hx⟩:∃ x,a.getD k []=x:=⟨_,rfl⟩;obtain⟨y,hy⟩:∃ y,b.getD k []=y:=⟨_,rfl⟩;rw[hx] at m1 r1;rw[hy] at m2 r2;have HX:=lh hx;have HY:=lh hy;have R1:=lh r1;have R2:=lh r2;clear hc hx hy r1 r2;go_wp2;have aW:ag [] wr wr.drew:=(ag.refl [] wr).drew;refine ar (ag [] wr) [0,1,2,3,4,5,6,7,9] (Way.line [0,1,2,3,4,5,6,7,8,9] .done) (by kernel_rfl) (by kernel_rfl) ?_;simp only[Way.line]
    repeat (refine ai (v:=?_) rfl (by rfl) (by rfl) (fun _ _ _ h=>h) aW (fun w' aI=>?_) ?_;rotate_left;(focus (have gB:=aI.c m1;have gQ:=aI.c m2;clear aI;go_simp;try with_reducible rfl));simp only[Ql,Z1,Z2,Z3,Z4,Z5,Z6])
    refine au rfl (by rfl) (by rfl) (fun K hK=>?_);go_simp;refine (Ja _ _ x y _ (R1.out.fresh aW) (R2.out.fresh aW)).mono ?_;rintro e w3 ⟨rfl,qU⟩;have bF:=aW.t qU;clear aW qU;have aW:=bF;clear bF;refine hK.out _ _ (fun _=>aW) ?_;clear hK K
    try simp only[Ql,Z1,Z2,Z3,Z4,Z5,Z6]
    repeat (refine ai (v:=?_) rfl (by rfl) (by rfl) (fun _ _ _ h=>h) aW (fun w' aI=>?_) ?_;rotate_left;(focus (have gB:=aI.c m1;have gQ:=aI.c m2;clear aI;go_simp;try with_reducible rfl));simp only[Ql,Z1,Z2,Z3,Z4,Z5,Z6])
    refine aC ?_;have cU:=lh (HC.out.t aW);clear aW m1 m2;by_cases q:x=y
    ·rw[decide_eq_true q]
     have Bu:=lh (show (Qj (k+1)).all (fun i=>decide (a.getD i []=b.getD i []))=true by rw[HS.out,dH.out,HX.out,HY.out];simp[q]);clear q;go_wp2
     go_roundw
     case rel=>exact⟨k+1,by omega,by go_num,Bu,cU.out⟩
     case measure=>simp[intOf];omega
    rw[decide_eq_false q];have IU:=lh (show decide (a=b)=false by rw[<-HE.out];exact HF.out (by rw[HX.out,HY.out];exact decide_eq_false q));clear q;go_wp2;go_ret;exact⟨bm IU.out.symm,cU.out⟩
   have e:k=a.length:=by omega
   subst e;have IU:=lh (HE.out.symm.trans dH.out);clear hc;go_wp2;go_ret;exact⟨bm IU.out.symm,HC.out⟩
 have HE:=lh (show decide (a=b)=false from decide_eq_false (fun e=>hl (by rw[e])));have CD:((a.length:Int) != (b.length:Int))=true:=by simp only[bne_iff_ne];omega
 clear hl
 go_enter Tryz.func31,Tryz.ntmps31
 go_wp2;go_ret;exact⟨bm HE.out.symm,ag.refl _ _⟩
end Go.Proofs.YtoiflofhcmjpoaaGreat
namespace Go.Proofs.YtoiflofhcmjpoaaGreat.Plain
theorem Gq {p q:Int->Int} {c:List Int} (h:Ring p c) (k:Ring q c):∀ x∈c,p x=q x:=by
 cases c with
 | nil=>simp
 | cons a l =>
  have e:=(Trail.map (show Trail p a l a from h)).trans (Trail.map (show Trail q a l a from k)).symm;exact fun x hx=>List.map_inj_left.1 e x hx
theorem Fo {a b:List Int} (hn:(a++b).Nodup):∀ x∈a++b,ahead (b++a) x=ahead (a++b) x:=by
 intro x hx;have iI:(b++a).Nodup:=(List.perm_append_comm).nodup_iff.1 hn;by_cases ha:a=[]
 ·subst ha;simp
 by_cases hb:b=[]
 ·subst hb;simp
 have h1:=lK hn (by simp[ha]);have h2:=lK iI (by simp[ha]);rw[List.reverse_append] at h1 h2;obtain⟨u,r,hr⟩:=Qc (show a.reverse≠[] by simpa using ha);obtain⟨v,s,hs⟩:=Qc (show b.reverse≠[] by simpa using hb);rw[hr,hs] at h1 h2;have h3:=Ring.aa (p:=ahead (a++b)) (l:=s) (m:=r) (x:=v) (y:=u) h1;have:=Gq h2 h3 x (by
  rw[<-hr,<-hs,Qb,Qi,Qi];exact Qb.1 hx)
 exact this
theorem rY (l:List Int):∃ a b,l=a++b/\first l=b++a:=⟨l.take (mu l l.length),l.drop (mu l l.length),(List.take_append_drop _ _).symm,rfl⟩
theorem cI (l:List Int):(first l).Perm l:=by
 obtain⟨a,b,e1,e2⟩:=rY l
 grind
theorem Kr:first []=[]:=rfl
theorem sx {l:List Int} (hn:l.Nodup):∀ x∈l,ahead (first l) x=ahead l x:=by
 obtain⟨a,b,e1,e2⟩:=rY l
 grind [Fo]
theorem mU {g:Gr} {p:Pt} {aa:List (List Int)} (dm:p.err g=0) (vx:aR g p aa):dy g p aa (cJ g p aa):=by
 rw[<-FN dm vx];exact (A4 (Pt.ay dm) (bM (Pt.aA dm).2.2.1) vx).walks (Pt.ay dm)
end Go.Proofs.YtoiflofhcmjpoaaGreat.Plain
namespace Go.Proofs.YtoiflofhcmjpoaaGreat
open Go.RowKit Go.Maps
namespace Plain
end Plain
def Safe (w:World) (B:Nat) (v:Value):Prop:=∀ a n c,v=.slice (some a) n c->a.block<B\/∃ cs r,w.heap[a.block]?=some (.cells cs 3 r)
structure afM (w:World) (B:Nat) (ov:Value) (vs:List Value) (ll:List (List Int)):Prop where
 out:w.ownsRow B 25 1 ov vs.length vs
 len:vs.length=ll.length
 rows:∀ k,k<vs.length->al w (vs.getD k undef) (ll.getD k [])/\gV (vs.getD k undef)/\Safe w B (vs.getD k undef)
end Go.Proofs.YtoiflofhcmjpoaaGreat
namespace Go.Proofs.YtoiflofhcmjpoaaGreat.Plain
def marks (f:bn):List Int:=if f.2=[] then [f.1] else f.2
def Af (W:List bn):List (List Int):=W.map marks
theorem kG {f:bn} (h:f.2=[]):marks f=[f.1]:=if_pos h
theorem jK {f:bn} (h:f.2≠[]):marks f=f.2:=if_neg h
theorem qX {g:Gr} {p:Pt} {aa:List (List Int)} {W:List bn} (dm:p.err g=0) (hW:dy g p aa W) {f:bn} (hf:f∈W) {y:Int} (hy:y∈marks f):(y<0/\f.2=[]/\f.1=y)\/(0<=y/\y∈p.ah/\y∈f.2):=by
 rcases E2 dm hW hf with ⟨h1,h2,h3,-⟩ | ⟨d,l,h1,h2,h3,-⟩
 ·rw[kG h1] at hy
  simp at hy;exact Or.inl ⟨by omega,h1,hy.symm⟩
 rw[jK (by rw[h2];simp)] at hy;right;obtain⟨F,e,hT⟩:=hW.split;have hm:f∈F:=by
  rw[e] at hf;rcases Qb.1 hf with q | q
  ·obtain⟨v,-,rfl⟩:=Qa.1 q
   cases h2
  exact q
 have hyd:=hT.sub y (List.mem_flatten.2 ⟨f.2,Qa.2 ⟨f,hm,rfl⟩,hy⟩);have:=Pt.tj dm (aw.1 hyd);exact⟨by omega,hyd,hy⟩
theorem zZ {g:Gr} {p:Pt} {aa:List (List Int)} {W:List bn} (dm:p.err g=0) (hW:dy g p aa W):(Af W).flatten.Nodup:=by
 have hk:=Fs dm hW;rw[eK];obtain⟨F,e,hT⟩:=hW.split;have hFn:=eK.1 hT.rings.nodup;refine⟨fun l hl=>?_,?_⟩
 ·obtain⟨f,hf,rfl⟩:=Qa.1 hl
  by_cases h:f.2=[]
  ·rw[kG h];simp
  rw[jK h];rw[e] at hf;rcases Qb.1 hf with q | q
  ·obtain⟨v,-,rfl⟩:=Qa.1 q
   exact absurd rfl h
  exact hFn.1 _ (Qa.2 ⟨f,q,rfl⟩)
 unfold Af;rw[Qf];rw[Qf] at hk;refine hk.imp_of_mem ?_;intro a b ha hb qi x hx y hy exy;subst exy;rcases qX dm hW ha hx with ⟨h1,-,h2⟩ | ⟨h1,-,h2⟩
 ·all_goals grind [qX]
 rcases qX dm hW hb hy with ⟨k1,-,-⟩ | ⟨-,-,k2⟩
 ·omega
 have hma:a∈F:=by
  rw[e] at ha;rcases Qb.1 ha with q | q
  ·obtain⟨v,-,rfl⟩:=Qa.1 q;simp at h2
  exact q
 have AQ:b∈F:=by
  all_goals grind
 have:=Mx hT.rings.nodup (Qa.2 ⟨a,hma,rfl⟩) (Qa.2 ⟨b,AQ,rfl⟩) h2 k2;obtain⟨la,ea⟩:=hT.key a hma;obtain⟨lb,eb⟩:=hT.key b AQ
 grind
end Go.Proofs.YtoiflofhcmjpoaaGreat.Plain
namespace Go.Proofs.YtoiflofhcmjpoaaGreat
open Go.RowKit Go.Maps
end Go.Proofs.YtoiflofhcmjpoaaGreat
