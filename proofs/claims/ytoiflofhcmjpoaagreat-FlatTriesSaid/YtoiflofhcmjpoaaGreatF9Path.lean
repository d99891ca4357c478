/- package walk: the contract of Path. Conditions: a right part that lies in memory and reads so; two vertices of it. -/
import Derived.Test.YtoiflofhcmjpoaaGreatF9SkP
import Derived.Lib.AppendZeros
set_option maxRecDepth 100000
set_option maxHeartbeats 4000000
open Go.Value renaming int→Qa,slice→Qb
open Or renaming inr→Qc,inl→Qm
open Go.Act renaming put→Qd
open List renaming mem_filter→Qe,flatten_append→Qh,mem_singleton→Qi,length_append→Qj,mem_cons→Qk
open Nat renaming zero_le→Qf,le_refl→Qg,le_trans→Qn
open And renaming intro→Ql
-- READS ONLY
namespace Go.Proofs.YtoiflofhcmjpoaaGreat
open Plain
open Go.RowKit Go.Maps
namespace Plain
def mm (g:Gr) (p:Pt) (v:Int):List Int:=p.ah.filter λd=>decide (g.tail d=v)
def mJ (g:Gr) (p:Pt) (f:Int->Option Int) (n:Nat) (v:Int):Int:=(mm g p v).getD (Ey (λd=>decide ((f (g.head d)).getD 0=n)) (mm g p v)).toNat 0
def dz (g:Gr) (p:Pt) (f:Int->Option Int):Nat->Int->List Int
 | 0,_=>[]
 | n+1,v=>mJ g p f n v :: dz g p f n (g.head (mJ g p f n v))
def jm (g:Gr) (p:Pt) (a b:Int):Option (List Int):=(eB g p (-1) b a).map λc=>dz g p (eB g p (-1) b) c.toNat a
theorem y8 {g:Gr} {p:Pt} {a v:Int} {f:Int->Option Int} {n:Nat} (h:pX g p a f) (hv:f v=some ((n:Int)+1)) (cX:∀ d∈p.ah,g.tail d=v->f (g.head d)≠none) :
  ∃ k:Nat,Ey (λd=>decide ((f (g.head d)).getD 0=(n:Int))) (mm g p v)=(k:Int)/\k<(mm g p v).length/\(mm g p v).getD k 0=mJ g p f n v/\mJ g p f n v∈p.ah/\g.tail (mJ g p f n v)=v/\f (g.head (mJ g p f n v))=some (n:Int):=by
 have bn:v≠a:=λe=>by rw[e,h.base] at hv;simp at hv;omega
 obtain⟨d,hd,ht,hh⟩:=h.prev v _ hv bn;have E6:d∈mm g p v:=Qe.2 ⟨hd,decide_eq_true ht⟩;have aoT:(mm g p v).any (λd=>decide ((f (g.head d)).getD 0=(n:Int)))=true:=List.any_eq_true.2 ⟨d,E6,decide_eq_true (by grind)⟩;have jw:=Lc (P:=λd=>decide ((f (g.head d)).getD 0=(n:Int))) (l:=mm g p v);rw[aoT] at jw;have jw:Ey (λd=>decide ((f (g.head d)).getD 0=(n:Int))) (mm g p v) ≥ 0:=of_decide_eq_true jw;unfold Ey at jw;cases hf:(mm g p v).findIdx? (λd=>decide ((f (g.head d)).getD 0=(n:Int))) with
 | none=>rw[hf] at jw;exact absurd jw (by grind)
 | some k =>
  have xo:Ey (λd=>decide ((f (g.head d)).getD 0=(n:Int))) (mm g p v)=(k:Int):=by unfold Ey;rw[hf]
  obtain⟨hk,hp,-⟩:=List.findIdx?_eq_some_iff_getElem.1 hf;have xC:(mm g p v).getD k 0=mJ g p f n v:=by unfold mJ;rw[xo,Int.toNat_natCast]
  have hm:mJ g p f n v∈mm g p v:=by rw[<-xC];simp[List.getD,hk]
  obtain⟨rX,mD⟩:=Qe.1 hm;have ht2:=of_decide_eq_true mD;refine⟨k,xo,hk,xC,rX,ht2,?_⟩;have Pq:=of_decide_eq_true hp;have e:(mm g p v)[k]=mJ g p f n v:=by rw[<-xC];simp[List.getD,hk]
  rw[e] at Pq;cases hq:f (g.head (mJ g p f n v)) with
  | none=>exact absurd hq (cX _ rX ht2)
  | some c=>rw[hq] at Pq;simp at Pq;rw[Pq]
end Plain
theorem OX (n i NR gb ib mp m:Nat) (eo:Option Addr) (cap:Nat) (g:Gr) (f:Int->Option Int) (w:World) (hd:n / 2<g.e.length) (hm:g.e.length<4294967296) (hx:bF (g.head n)) (hi:i<1000000) (hf:∀ c,f (g.head n)=some c->0<=c/\c<=1000000) (c1:w.cell? ⟨NR,0,none⟩=some (.map (some mp)))
  (c2:w.cell? ⟨gb,0,none⟩=some (.int .i64 g.n)) (c3:w.cell? ⟨gb,1,none⟩=some (.slice eo g.e.length cap)) (c4:w.cell? ⟨ib,0,none⟩=some (.int .i64 ((i:Int)+1))) (hM:dx w mp m f) (hg:cA w (.agg #[.int .i64 g.n,.slice eo g.e.length cap]) g) :
  Calls Tryz.prog 174 #[.int .i64 n,.pointer (some ⟨NR,0,none⟩),.pointer (some ⟨gb,0,none⟩),.pointer (some ⟨ib,0,none⟩)] w λe w'=>e=.returned (.bool (decide ((f (g.head n)).getD 0=i)))/\ai [] w w':=by
 have HM:=lh hM;have HG:=lh hg;have HF:=lh (show 0<=(f (g.head n)).getD 0/\(f (g.head n)).getD 0<=1000000 by
  cases hq:f (g.head n) with
  | none=>simp
  | some c=>exact hf c hq)
 have HLK:=lh (λ(wx:World) (h:ai [] w wx)=>(hM.aL h (by simp)).ya hx);obtain⟨x,hxx⟩:∃ x,g.head n=x:=⟨_,rfl⟩;obtain⟨y,hy⟩:∃ y,(f (g.head n)).getD 0=y:=⟨_,rfl⟩;rw[hy] at HF HLK ⊢;rw[hxx] at HLK;have HX:=lh hxx;obtain⟨hy0,Ko⟩:=HF.out;clear hM hg hxx hy hf hx;go_enter Tryz.func174,Tryz.ntmps174;go_wp2_with fail;have aG:ai [] w w.drew:=(ai.refl [] w).drew;refine al (ai [] w) [0,1,2,4,5,6,7,8] (Way.line [0,1,2,5,6,3,4,7,8] .done) (by kernel_rfl) (by kernel_rfl) ?_;simp only[Way.line]
 repeat (refine aj (v:=?_) rfl (by rfl) (by rfl) (λ_ _ _ h=>h) aG (λw' aB=>?_) ?_;rotate_left;(focus (have fE:=aB.c c1;have fV:=aB.c c2;have kD:=aB.c c3;have tq:=aB.c c4;clear aB;go_simp;try with_reducible rfl));simp only[Qd,Z1,Z2,Z3,Z4,Z5,Z6])
 refine aq rfl (by rfl) (by rfl) (λK hK=>?_);go_simp;refine (rY _ g n _ hd hm (HG.out.fresh aG)).mono ?_;rw[HX.out];rintro e w3 ⟨rfl,dK⟩;have bH:ai [] w w3:=aG.t dK;refine hK.out _ _ (λ_=>bH) ?_;clear hK K dK aG;try simp only[Qd,Z1,Z2,Z3,Z4,Z5,Z6]
 repeat (refine aj (v:=?_) rfl (by rfl) (by rfl) (λ_ _ _ h=>h) bH (λw' aB=>?_) ?_;rotate_left;(focus (have rdl:=HLK.out _ aB;clear aB;go_simp;try with_reducible rfl));simp only[Qd,Z1,Z2,Z3,Z4,Z5,Z6])
 refine ar ?_;go_wp2;go_ret;exact⟨aM (by rw[show IntKind.i64.wrap (i:Int)=i from IntWalk.i64_in _ (by omega)];rfl),bH⟩
theorem Kr (i NR gb ib mp m:Nat) (eo:Option Addr) (cap:Nat) (g:Gr) (f:Int->Option Int) (v:Value) (q:List Int) (w:World) (hq:∀ d∈q,0<=d/\d / 2<g.e.length/\bF (g.head d)) (Rk:q.length<1000000000) (hm:g.e.length<1000000) (hi:i<1000000) (hf:∀ u c,f u=some c->0<=c/\c<=1000000) (hv:aI w v q) (c1:w.cell? ⟨NR,0,none⟩=some (.map (some mp)))
  (c2:w.cell? ⟨gb,0,none⟩=some (.int .i64 g.n)) (c3:w.cell? ⟨gb,1,none⟩=some (.slice eo g.e.length cap)) (c4:w.cell? ⟨ib,0,none⟩=some (.int .i64 ((i:Int)+1))) (hM:dx w mp m f) (hg:cA w (.agg #[.int .i64 g.n,.slice eo g.e.length cap]) g) :
  Calls Tryz.prog 109 #[v,.func (Fn.func 174) #[] #[.pointer (some ⟨NR,0,none⟩),.pointer (some ⟨gb,0,none⟩),.pointer (some ⟨ib,0,none⟩)]] w λe w'=>e=.returned (.int .i64 (Ey (λd=>decide ((f (g.head d)).getD 0=(i:Int))) q))/\ai [] w w':=by
 have HQ:=lh hq;have HV:=lh hv;have HF:=lh hf;have HM:=lh hM;have HG:=lh hg;have H1:=lh c1;have H2:=lh c2;have H3:=lh c3;have H4:=lh c4;obtain⟨ao,ac,rfl,-,-,-⟩:=hv;clear hq c1 c2 c3 c4 hM hg hf;obtain⟨P,hP⟩:∃ P:Int->Bool,(λd=>decide ((f (g.head d)).getD 0=(i:Int)))=P:=⟨_,rfl⟩;have HP:=lh (λd=>show decide ((f (g.head d)).getD 0=(i:Int))=P d from congrFun hP d);rw[hP];clear hP;go_enter Tryz.func109,Tryz.ntmps109;go_wp2;go_loopw [8] (λc wr=>∃ k:Nat,k<=q.length/\c=.int .i64 k/\Hid (∀ j,j<k->P (q.getD j 0)=false)/\ai [] w wr) (λc _=>q.length - (intOf c).toNat);case atStart=>exact⟨0,Qf _,rfl,lh (by omega),ai.refl _ _⟩
 case round =>
  obtain⟨k,hk,rfl,HN,hc⟩:=hrel;have HC:=lh hc;by_cases aW:k<q.length
  ·obtain⟨rb,sy,rfl,rc⟩:=aI.cellAt HV.out aW
   have bX:=hc.c rc;have hr:=HQ.out _ (aQ aW);have nj:=lh (λ(h:P (q.getD k 0)=true)=>xT (P:=P) aW h HN.out);have oL:=lh (λ(h:P (q.getD k 0)=false) j (hj:j<k+1)=>(show P (q.getD j 0)=false from by
    by_cases e:j=k
    ·rw[e];exact h
    exact HN.out j (by omega)))
   obtain⟨n,e1⟩:∃ n:Nat,q.getD k 0=n:=⟨(q.getD k 0).toNat,by omega⟩;rw[e1] at bX nj oL hr;have kr:n / 2<g.e.length:=by grind
   have alc:=lh hr.2.2;clear rc e1 hc hr;go_wp2_with fail;refine (OX n i NR gb ib mp m eo cap g f _ kr (by omega) alc.out hi (λc h=>HF.out _ c h) (HC.out.c H1.out) (HC.out.c H2.out) (HC.out.c H3.out) (HC.out.c H4.out) (HM.out.aL HC.out (by simp)) (HG.out.fresh HC.out)).mono ?_;rintro e w2 ⟨rfl,bI⟩;rw[HP.out];have bU:=lh (HC.out.t bI);clear bI bX;cases h:P (n:Int) with
   | true =>
    have HI:=lh (nj.out h);clear h;go_wp2;go_ret;exact⟨aR (show ((k:Nat):Int)=_ by rw[HI.out]),bU.out⟩
   | false =>
    have HI:=lh (oL.out h);clear h;go_wp2;go_roundw;case rel=>exact⟨k+1,by omega,by go_num,HI,bU.out⟩
    case measure=>simp[intOf];omega
  have e:k=q.length:=by omega
  subst e;have HI:=lh (tK (P:=P) HN.out);clear hc;go_wp2;go_ret;exact⟨aR (show (-1:Int)=_ by rw[HI.out]),HC.out⟩
end Go.Proofs.YtoiflofhcmjpoaaGreat
-- READS ONLY
namespace Go.Proofs.YtoiflofhcmjpoaaGreat
open Plain
open Go.RowKit Go.Maps
namespace Plain
theorem nY {g:Gr} {p:Pt} {b:Int} {f:Int->Option Int} (hp:aD g p) (h0:∀ v∈p.v,0<=v) (h:pX g p b f) (hc:∀ v,f v≠none↔bS g p (-1) b v):∀ (n:Nat) (v:Int),f v=some (n:Int)->fz g v (dz g p f n v) b/\(∀ d∈dz g p f n v,d∈p.ah)/\(∀ d∈dz g p f n v,∃ c:Nat,f (g.tail d)=some (c:Int)/\c<=n)/\((dz g p f n v).map g.tail).Nodup
 | 0,v,hv=>by
  have X4:v=b:=by
   by_cases e:v=b
   ·exact e
   have:=h.zero v _ hv e;omega
  subst X4;exact⟨rfl,by simp[dz],by simp[dz],by simp[dz]⟩
 | n+1,v,hv=>by
  obtain⟨k,-,-,-,h4,h5,h6⟩:=y8 h (v:=v) (n:=n) (by rw[hv];congr 1) (λd hd ht=>by
   have h1:=(hc v).1 (by grind);have h2:=fW (g:=g) hd;rw[ht] at h2;have h3:=h0 _ (hp.aP hd).2;exact (hc _).2 (h1.step h2 (by omega)))
  obtain⟨i1,i2,i3,i4⟩:=nY hp h0 h hc n _ h6;refine⟨⟨h5,i1⟩,λd hd=>?_,λd hd=>?_,?_⟩
  ·rcases Qk.1 hd with r | r
   ·rw[r];exact h4
   exact i2 d r
  ·rcases Qk.1 hd with r | r
   ·exact⟨n+1,by rw[r,h5,hv],Qg _⟩
   obtain⟨c,c1,c2⟩:=i3 d r;exact⟨c,c1,by omega⟩
  rw[dz,List.map_cons,List.nodup_cons];refine⟨λq=>?_,i4⟩;obtain⟨d,hd,e⟩:=List.mem_map.1 q;obtain⟨c,c1,c2⟩:=i3 d hd;rw[e,h5,hv] at c1;simp at c1;omega
end Plain
theorem dt.vs {w:World} {u1 u2:Value} {p:Pt} (h:dt w (.agg #[u1,u2]) p):aI w u1 p.v:=by
 obtain⟨v1,v2,e,h1,-⟩:=h
 grind
theorem Tw (vg vp:Value) (g:Gr) (p:Pt) (a b:Int) (w:World) (hr:p.err g=0) (ha:a∈p.v) (hb:b∈p.v) (hg:cA w vg g) (hp:dt w vp p) :
  Calls Tryz.prog 126 #[vg,vp,.int .i64 a,.int .i64 b] w λe w'=>∃ v',e=.returned (.tuple #[v',.bool (jm g p a b).isSome])/\aw w' w.heap.size v' ((jm g p a b).getD [])/\(pX g p b (eB g p (-1) b)/\∀ v,eB g p (-1) b v≠none↔bS g p (-1) b v)/\ai [] w w':=by
 have HR:=lh hr;have HA:=lh ha;have HBV:=lh hb;have ni:=lh (Pt.ax hr);have fB:=lh (Gr.aF (Pt.aF hr).1);have IQ:=lh (bK (Pt.aF hr).2.1);have sJ:=lh (Pt.aF hr).2.2.1;have AK:=lh (show p.e.length<=1024 by have:=ep (Pt.aF hr).2.2.1;have:=(Gr.aF (Pt.aF hr).1);omega);have jr:=lh (show ∀ u∈p.v,0<=u/\u<1025 from λu hu=>by have:=ni.out.vr u hu;have:=fB.out.2.1;omega);have uk:=lh (show p.v.length<=1025 from lT (N:=1025) (IQ.out.imp λh=>by omega) (λu hu=>by have:=jr.out u hu;omega));have hia:bF a:=bF.mk (by have:=jr.out a ha;omega) (by have:=jr.out a ha;omega);have hib:bF b:=bF.mk (by have:=jr.out b hb;omega) (by have:=jr.out b hb;omega);have mE:p.v.length<=100000:=by have:=uk.out;omega
 clear hr ha hb;obtain⟨eo,cap,ao,ac,bo,bc,rfl,rfl,HG,HP,hm,uJ,oJ,pU,nG,xL,uD,aY,bm⟩:=eF hg hp;clear hg hp;obtain⟨x0,x1,y0,y1,bs⟩:=bm.out _ (ai.refl _ _);go_enter Tryz.func126,Tryz.ntmps126;go_wp2_with fail;obtain⟨w1,gu⟩:∃ w1,((w.alloc (.cells #[.int .i64 g.n,.slice eo g.e.length cap] 24)).alloc (.cells #[.slice ao p.v.length ac,.slice bo p.e.length bc] 27))=w1:=⟨_,rfl⟩;rw[gu] at aY bm ⊢;clear gu x0 x1 y0 y1 bs;refine (jP _ _ g p _ (by omega) (HG.out.fresh aY.out) (HP.out.fresh aY.out)).mono ?_;rintro e w2 ⟨rfl,bI⟩;rw[HR.out];have bU:=lh (aY.out.tr bI);have nm:=lh bI;obtain⟨x0,x1,y0,y1,bs⟩:=bm.out _ bI;clear bI;go_wp2_with fail;refine (xY _ p.v a _ IQ.out (by omega) (HP.out.fresh bU.out).vs).mono ?_;rintro e w3 ⟨rfl,dK⟩;rw[show decide (a∈p.v)=true from decide_eq_true HA.out];have b8:=lh (bU.out.tr dK);have agi:=lh (nm.out.tr dK);obtain⟨x0,x1,y0,y1,bs⟩:=bm.out _ agi.out;clear dK;go_wp2_with fail;refine (xY _ p.v b _ IQ.out (by omega) (HP.out.fresh b8.out).vs).mono ?_;rintro e w4 ⟨rfl,gX⟩;rw[show decide (b∈p.v)=true from decide_eq_true HBV.out];have eW:=lh (b8.out.tr gX);have ah5:=lh (agi.out.tr gX);obtain⟨x0,x1,y0,y1,bs⟩:=bm.out _ ah5.out;clear gX;go_wp2_with fail;refine (G3 _ _ g p _ (by have:=AK.out;omega) HR.out (HG.out.fresh eW.out) (HP.out.fresh eW.out)).mono ?_;rintro e w5 ⟨mb,rfl,hm5,dV,EN⟩;have HM5:=lh (show SMap w5 mb (2*p.e.length) (mm g p) from hm5);have fG:=lh (eW.out.tr dV);have agH:=lh (ah5.out.tr dV);obtain⟨x0,x1,y0,y1,bs⟩:=bm.out _ agH.out;clear dV hm5;go_wp2_with fail;refine (Om _ g p mb (2*p.e.length) b (-1) _ (by have:=AK.out;omega) (by omega) HR.out HBV.out hib (bF.mk (by omega) (by omega)) (HG.out.fresh fG.out) HM5.out).mono ?_;rintro e w6 ⟨rb,m,rfl,hm6,kB,hprev,Fo,hc6,I8,sd⟩;have L7:=lh hm6;have HCM:=lh kB;have LQ:=lh hprev;have Sb:=lh Fo;have fC:=lh (fG.out.tr hc6);have afd:=lh (agH.out.tr hc6);have aeU:=lh hc6;obtain⟨x0,x1,y0,y1,bs⟩:=bm.out _ afd.out;obtain⟨f,hf⟩:∃ f,eB g p (-1) b=f:=⟨_,rfl⟩;have HPF:=lh (show jm g p a b=(f a).map λc=>dz g p f c.toNat a by unfold jm;rw[hf]);have TL:=lh (Ql LQ.out HCM.out);rw[hf] at L7 HCM LQ Sb;clear hm6 kB hprev Fo hc6 hf;have HZ6:=lh bs;obtain⟨NR,Rq⟩:∃ n,w6.heap.size=n:=⟨_,rfl⟩;have hw6:w.heap.size+2<=NR:=by have:=HZ6.out;omega
 have Va:=lh hw6;have oT:=lh ((ai.refl [] w6).alloc (.cells #[.map (some rb)] 124));have XS:=lh (L7.out.aL oT.out (by simp));cases vi:f a with
 | none =>
  have rZ:=lh vi;have HPN:=lh (show jm g p a b=none by rw[HPF.out,vi];rfl);clear vi Rq hw6;go_wp2_with (at_lookup;refine fP _ rfl _ _ rfl XS.out rfl hia rfl rZ ?_);refine bodyPost_ret (v:=.tuple #[.slice none 0 0,.bool false]) (by simp[results,Tryz.results126,go_sem]) rfl ?_;rw[HPN.out];exact⟨_,rfl,da _ _,TL.out,(fC.out.tr oT.out).alloc _⟩
 | some c =>
  have rZ:=lh vi;have fs:=LQ.out.low a c vi;have dD:=Sb.out a c vi;obtain⟨C,rfl⟩:∃ C:Nat,c=C:=⟨c.toNat,by omega⟩;have HPN:=lh (show jm g p a b=some (dz g p f C a) by rw[HPF.out,vi];rfl);have YB:=lh (show C<=1025 by have:=uk.out;omega);have axo:bF (C:Int):=bF.mk (by omega) (by omega);clear vi fs dD hw6;go_wp2_with (at_lookup;refine jX _ rfl _ _ rfl XS.out rfl hia rfl rZ ?_);have hba:=heap_alloc_new w6 (.cells #[.map (some rb)] 124);have KS:(w6.alloc (.cells #[.map (some rb)] 124)).heap.size=NR+1:=by rw[<-Rq];simp
  have Ib:=heap_alloc_new (w6.alloc (.cells #[.map (some rb)] 124)) (.cells #[.int .i64 (C:Int)] 3);rw[KS] at Ib;have Ij:ai [] (w6.alloc (.cells #[.map (some rb)] 124)) ((w6.alloc (.cells #[.map (some rb)] 124)).alloc (.cells #[.int .i64 (C:Int)] 3)):=(ai.refl [] _).alloc _;have HBA:=lh (Ij.hp hba);have Fs:=lh Ib;have DG:=lh (oT.out.tr Ij);clear hba KS Ib Ij;generalize (w6.alloc (.cells #[.map (some rb)] 124)).alloc (.cells #[.int .i64 (C:Int)] 3)=w8 at *;rw[Rq] at HBA;have HM8:=lh (L7.out.aL DG.out (by simp));have ai3:=lh (aeU.out.tr DG.out);have aaP:=lh (fC.out.tr DG.out);obtain⟨z0,z1,-,-,-⟩:=bm.out _ (afd.out.tr DG.out);have PU:=lh z0;have HX1:=lh z1;have Py:=lh (show ∀ j∈[NR+1],w5.heap.size<=j/\w.heap.size<=j from λj hj=>by
   have h1:=aeU.out.size
   grind)
  have ak2:=lh (show rb<NR by rw[<-Rq];exact L7.out.lt);clear z0 z1 Rq oT XS;obtain⟨ib,abw⟩:∃ n,NR+1=n:=⟨_,rfl⟩;have HIB:=lh abw;rw[abw] at Fs Py ⊢;clear abw;have HI8:=lh (show ib<w8.heap.size from lt_of_block Fs.out);have HVC:=lh (show ∀ u c,f u=some c->0<=c/\c<=1000000 from λu c h=>⟨LQ.out.low u c h,by have:=Sb.out u c h;have:=uk.out;omega⟩);have afu:=lh (show ∀ v,f v≠none->∀ d∈p.ah,g.tail d=v->f (g.head d)≠none from λv hv d hd ht=>by
   have h1:=(HCM.out v).1 hv;have h2:=fW (g:=g) hd;rw[ht] at h2;have h3:=jr.out _ (ni.out.aP hd).2;exact (HCM.out _).2 (h1.step h2 (by omega)))
  have ZD:=lh (show ∀ d∈p.ah,0<=d/\d / 2<g.e.length/\bF (g.head d) from λd hd=>by
   have h3:=jr.out _ (ni.out.aP hd).2;obtain⟨i,hi,e⟩:=cr (au.1 hd);have:=cG sJ.out hi
   grind [bF.mk])
  go_loopw [14,15,16] (λc14 c15 _ wr=>∃ (n v:Nat) (M:List Int),n<=C/\c15=.int .i64 v/\aw wr w8.heap.size c14 M/\Hid (M++dz g p f n v=dz g p f C a/\f v=some (n:Int)/\M.length+n=C)/\wr.heap[ib]?=some (.cells #[.int .i64 (n:Int)] 3 (0,0))/\ai [ib] w8 wr) (λ_ _ _ wr=>match wr.cell? ⟨ib,0,none⟩ with | some u=>(intOf u).toNat | none=>0);case atStart =>
   obtain⟨an,han⟩:∃ n:Nat,a=n:=⟨a.toNat,by have:=jr.out a HA.out;omega⟩;exact⟨C,an,[],Qg _,by rw[han],da _ _,lh ⟨by grind,by rw[<-han];exact rZ.out,by simp⟩,Fs.out,ai.refl _ _⟩
  case round =>
   obtain⟨n,v,M,hn,rfl,aT,hinv,dN,hc⟩:=hrel;have wA:=lh dN;have bA:=lh aT;have HC:=lh hc;obtain⟨oo,oc,rfl⟩:=aT.shape;have ci:=(cell_of_row _ _ 0 _ _ _ dN).trans (show _=some (Qa .i64 (n:Int)) from rfl);have fi:=bE dN 0;have J6:=lh (ai3.out.trans hc (λj hj=>Qc (Py.out j hj).1));have qa:=lh (aaP.out.trans hc (λj hj=>Qc (Py.out j hj).2));clear aT dN hc;rcases n with _ | n
   ·have HE:=lh (show M=dz g p f C a by rw[<-hinv.out.1];simp[dz])
    go_wp2;refine bodyPost_ret (v:=.tuple #[.slice oo M.length oc,.bool true]) (by simp[results,Tryz.results126,go_sem]) rfl ?_;rw[HPN.out];exact⟨_,rfl,by rw[Option.getD_some,<-HE.out];exact bA.out.base aaP.out.size,TL.out,qa.out⟩
   obtain⟨kk,hk1,OV,hk3,hk4,hk5,hk6⟩:=y8 LQ.out (v:=(v:Int)) (n:=n) (by rw[hinv.out.2.1];congr 1) (afu.out _ (by rw[hinv.out.2.1];simp));have jw:=ZD.out _ hk4;obtain⟨d,hd⟩:∃ d:Nat,mJ g p f n v=d:=⟨(mJ g p f n v).toNat,by omega⟩;have RM:(kk:Int)<((mm g p v).length:Int):=by omega
   have afp:=lh (show M++[(d:Int)]++dz g p f n (g.head d)=dz g p f C a/\f (g.head d)=some (n:Int)/\(M++[(d:Int)]).length+n=C by
    refine⟨?_,by grind,by have:=hinv.out.2.2;simp;omega⟩;rw[<-hinv.out.1,dz,hd];simp)
   have HK1:=lh hk1;have xu:=lh (show (mm g p v).length<=2*p.e.length by grind [mm,ct]);rw[hd] at hk3 jw;have Ay:=jr.out _ (ni.out.aP hk4).2;rw[hd] at Ay;obtain⟨x,hx⟩:∃ x:Nat,g.head d=x:=⟨(g.head d).toNat,by omega⟩;have HX:=lh hx;rw[hx] at afp;have oF:d / 2<g.e.length:=by grind
   have hng:g.e.length<1000000:=by have:=fB.out.2.2.1;have:=fB.out.1;omega
   have hnC:n<1000000:=by have:=YB.out;omega
   have Jh:bF (v:Int):=by
    have h1:=(ni.out.aP hk4).1;rw[hk5] at h1;have:=jr.out _ h1
    grind [bF.mk]
   have Ox:bF (d:Int):=by grind [bF.mk]
   have hLD:∀ q∈mm g p v,0<=q/\q / 2<g.e.length/\bF (g.head q):=λq hq=>ZD.out q (Qe.1 hq).1;have HLD:=lh hLD;have qY:=lh (show M.length<4294967290 by have:=hinv.out.2.2;have:=YB.out;omega);have cm:=HC.out.cell ((cell_of_row _ _ 0 _ _ _ HBA.out).trans (show _=some (Value.map (some rb)) from rfl)) (by have:=HIB.out;simp;omega);have cg0:=HC.out.cell PU.out (by have:=HIB.out;have:=Va.out;simp;omega);have cg1:=HC.out.cell HX1.out (by have:=HIB.out;have:=Va.out;simp;omega);have ao0:=lh cm;have apr:=lh cg0;have apP:=lh cg1;have anV:=lh ci;have I0:=lh (HG.out.fresh qa.out);have HMR:=lh (HM8.out.aL HC.out (by have:=L7.out.lt;have:=DG.out;have:=HIB.out;have h9:=ak2.out;simp;omega));clear hk1 hk4 hk5 hk6 jw hd hx Ay hLD;go_wp2_with (at_lookup;refine tS rfl _ _ rfl HM5.out J6.out (by have:=AK.out;omega) rfl Jh rfl ?_;intro vv r0;obtain⟨vo,vc,rfl⟩:=r0.shape;have R0:=lh r0;clear r0);have xo:=Kr n NR w.heap.size ib rb m eo cap g f (.slice vo (mm g p v).length vc) (mm g p v) wr HLD.out (by have:=AK.out;have:=xu.out;omega) hng hnC HVC.out (R0.out.ints.fresh J6.out) ao0.out apr.out apP.out anV.out HMR.out I0.out;rw[HK1.out] at xo;refine xo.mono ?_;rintro e w9 ⟨rfl,hc9⟩;have Ll:=lh hc9;have aaV:=lh (J6.out.tr hc9);have ahg:=lh (HC.out.tr hc9);have R3:=lh (bA.out.aL hc9 (by simp));have HS9:=lh (show w8.heap.size<=w9.heap.size from ahg.out.size);have apz:=lh (hc9.hp wA.out);have sd:=qY.out;clear xo hc9 cm cg0 cg1 ci fi;go_wp2_with (first
    | (at_lookup;refine tS rfl _ _ rfl HM5.out aaV.out (by have:=AK.out;omega) rfl Jh rfl ?_;intro vv r1;obtain⟨v1o,v1c,rfl⟩:=r1.shape;obtain⟨g1,e1,h1⟩:=r1.some (by omega);subst e1;have ck1:=aaV.out.bO (h1 kk OV);rw[hk3] at ck1;clear r1 h1)
    | (at_builtin;refine eN rfl _ _ rfl (B:=w8.heap.size) (v:=.slice oo _ oc) rfl rfl R3.out Ox HS9.out sd rfl ?_;intro v6 Uz r6 c6 f6;have R6:=lh r6;have C6:=lh c6;clear r6 c6 f6))
   have yn:=lh (show ∀ j∈aC (Qb oo M.length oc),w8.heap.size<=j from λj hj=>(R3.out.low j (by rw[<-R3.out.aC];exact hj)).1);have Ze:=lh (aaV.out.trans C6.out (λj hj=>Qc (Qn ai3.out.size (yn.out j hj))));have afD:=lh ((qa.out.tr Ll.out).trans C6.out (λj hj=>Qc (Qn aaP.out.size (yn.out j hj))));have SF:=lh (ahg.out.trans C6.out (λj hj=>Qc (yn.out j hj)));have afn:=lh (C6.out.heap apz.out (λhj=>by have:=yn.out _ hj;have:=HI8.out;omega));have dg0:=SF.out.cell PU.out (by have:=HIB.out;have:=Va.out;simp;omega);have dg1:=SF.out.cell HX1.out (by have:=HIB.out;have:=Va.out;simp;omega);obtain⟨vv,ke,fD⟩:=HM5.out.Fa (Ze.out.drew) (by have:=AK.out;omega) Jh;obtain⟨v1o,v1c,rfl⟩:=fD.shape;obtain⟨g1,e1,h1⟩:=fD.some (by omega);subst e1;have ck1:=Ze.out.bO (h1 kk OV);rw[hk3] at ck1;clear fD h1;have aG:ai [] Uz Uz.drew:=(ai.refl [] Uz).drew;refine al (ai [] Uz) [0,1,2,4,5,6,8] (Way.line [0,1,2,4,3,5,6,7,8] .done) (by kernel_rfl) (by kernel_rfl) ?_;simp only[Way.line]
   repeat (refine aj (v:=?_) rfl (by rfl) (by rfl) (λ_ _ _ h=>h) aG (λw' aB=>?_) ?_;rotate_left;(focus (have fE:=aB.c dg0;have fV:=aB.c dg1;have kD:=aB.c ck1;clear aB;go_simp;try with_reducible rfl));simp only[Qd,Z1,Z2,Z3,Z4,Z5,Z6])
   refine aq rfl (by rfl) (by rfl) (λK hK=>?_);go_simp;refine hK.out _ _ (λ_=>aG) ?_;clear hK K;try simp only[Qd,Z1,Z2,Z3,Z4,Z5,Z6]
   repeat (refine aj (v:=?_) rfl (by rfl) (by rfl) (λ_ _ _ h=>h) aG (λw' aB=>?_) ?_;rotate_left;(focus (have fE:=aB.c dg0;have fV:=aB.c dg1;have kD:=aB.c ck1;clear aB;go_simp;try with_reducible rfl));simp only[Qd,Z1,Z2,Z3,Z4,Z5,Z6])
   refine aq rfl (by rfl) (by rfl) (λK hK=>?_);go_simp;refine (rY _ g d _ oF (by omega) (HG.out.fresh (afD.out.tr aG))).mono ?_;rw[HX.out];rintro e Mr ⟨rfl,hc11⟩;have bH:ai [] Uz Mr:=aG.tr hc11;refine hK.out _ _ (λ_=>bH) ?_;clear hK K hc11 aG ke;try simp only[Qd,Z1,Z2,Z3,Z4,Z5,Z6]
   repeat (refine aj (v:=?_) rfl (by rfl) (by rfl) (λ_ _ _ h=>h) bH (λw' aB=>?_) ?_;rotate_left;(focus (have fE:=aB.c dg0;have fV:=aB.c dg1;clear aB;go_simp;try with_reducible rfl));simp only[Qd,Z1,Z2,Z3,Z4,Z5,Z6])
   refine ar ?_;have vP:=lh bH;have dN:=bH.hp afn.out;have ci:=(cell_of_row _ _ 0 _ _ _ dN).trans (show _=some (Qa .i64 ((n+1:Nat):Int)) from rfl);have fi:=bE dN 0;have Yq:=lh dN;have R11:=lh (R6.out.aL bH (by simp));have akJ:=lh (show ∀ j∈aC v6,j≠ib from λj hj e=>by have h1:=(R6.out.low j (by rw[<-R6.out.aC];exact hj)).1;have:=HI8.out;omega);clear dN bH dg0 dg1 ck1;go_wp2;go_roundw;case rel =>
    have br:ai [ib] Mr (Mr.setCell ⟨ib,0,none⟩ (.int .i64 (n:Int))):=by grind [ai.refl,ai.setCell]
    refine⟨n,x,M++[(d:Int)],by omega,rfl,R11.out.aL br (λj hj e=>akJ.out j (by rw[R6.out.aC];exact hj) (by grind)),afp,?_,((SF.out.tr vP.out).trans br (λj hj=>Qm hj))⟩;exact heap_setCell_same Yq.out 0 _
   case measure =>
    have e1:=(cell_of_row _ _ 0 _ _ _ wA.out).trans (show _=some (Qa .i64 ((n+1:Nat):Int)) from rfl);have e2:=(cell_of_row _ _ 0 _ _ _ (heap_setCell_same Yq.out 0 (.int .i64 (n:Int)))).trans (show _=some (Qa .i64 (n:Int)) from rfl);rw[e1,e2];simp[intOf]
namespace Plain
def dR (p:Pt) (x:Int):Pt:=⟨p.v,p.e.filter λe=>e != x⟩
end Plain
theorem Fq (vp:Value) (p:Pt) (x:Int) (w:World) (Cl:p.v.length<1000000) (iM:p.e.length<1000000) (hp:dt w vp p) :
  Calls Tryz.prog 22 #[vp,.int .i64 x] w λe w'=>∃ v1 v2,e=.returned (.agg #[v1,v2])/\dt w' (.agg #[v1,v2]) (dR p x)/\ai [] w w':=by
 obtain⟨v1,v2,rfl,hv,he⟩:=hp;have HV:=lh hv;have HE:=lh he;obtain⟨ao,ac,rfl,-,-,-⟩:=hv;obtain⟨bo,bc,rfl,Tz,-,-⟩:=he;have HBI:=lh Tz;have gJ:=lh (show ai [] w (((w.alloc (.cells #[.slice ao p.v.length ac,.slice bo p.e.length bc] 27)).alloc (.cells #[.slice none 0 0,.slice none 0 0] 27)).alloc (.cells #[.slice none 0 0,.slice none 0 0] 27)) from (show ai [] w (((w.alloc (.cells #[.slice ao p.v.length ac,.slice bo p.e.length bc] 27)).alloc (.cells #[.slice none 0 0,.slice none 0 0] 27)).alloc (.cells #[.slice none 0 0,.slice none 0 0] 27)) from ((((ai.refl [] w).alloc _).alloc _).alloc _)));have cf:=heap_alloc_new w (.cells #[.slice ao p.v.length ac,.slice bo p.e.length bc] 27);replace cf:=(show ai [] (w.alloc (.cells #[.slice ao p.v.length ac,.slice bo p.e.length bc] 27)) (((w.alloc (.cells #[.slice ao p.v.length ac,.slice bo p.e.length bc] 27)).alloc (.cells #[.slice none 0 0,.slice none 0 0] 27)).alloc (.cells #[.slice none 0 0,.slice none 0 0] 27)) from (((ai.refl [] (w.alloc (.cells #[.slice ao p.v.length ac,.slice bo p.e.length bc] 27))).alloc _).alloc _)).heap cf (by simp);have ig:=heap_alloc_new (w.alloc (.cells #[.slice ao p.v.length ac,.slice bo p.e.length bc] 27)) (.cells #[.slice none 0 0,.slice none 0 0] 27);rw[show (w.alloc (.cells #[.slice ao p.v.length ac,.slice bo p.e.length bc] 27)).heap.size=w.heap.size+1 by simp] at ig;replace ig:=(show ai [] ((w.alloc (.cells #[.slice ao p.v.length ac,.slice bo p.e.length bc] 27)).alloc (.cells #[.slice none 0 0,.slice none 0 0] 27)) (((w.alloc (.cells #[.slice ao p.v.length ac,.slice bo p.e.length bc] 27)).alloc (.cells #[.slice none 0 0,.slice none 0 0] 27)).alloc (.cells #[.slice none 0 0,.slice none 0 0] 27)) from ((ai.refl [] ((w.alloc (.cells #[.slice ao p.v.length ac,.slice bo p.e.length bc] 27)).alloc (.cells #[.slice none 0 0,.slice none 0 0] 27))).alloc _)).heap ig (by simp);have IN:=heap_alloc_new ((w.alloc (.cells #[.slice ao p.v.length ac,.slice bo p.e.length bc] 27)).alloc (.cells #[.slice none 0 0,.slice none 0 0] 27)) (.cells #[.slice none 0 0,.slice none 0 0] 27);rw[show ((w.alloc (.cells #[.slice ao p.v.length ac,.slice bo p.e.length bc] 27)).alloc (.cells #[.slice none 0 0,.slice none 0 0] 27)).heap.size=w.heap.size+2 by simp] at IN;have HX:=lh (λ(w2:World) (dN:ai [] (((w.alloc (.cells #[.slice ao p.v.length ac,.slice bo p.e.length bc] 27)).alloc (.cells #[.slice none 0 0,.slice none 0 0] 27)).alloc (.cells #[.slice none 0 0,.slice none 0 0] 27)) w2)=>(⟨dN.c ((cell_of_row _ _ 0 _ _ _ cf).trans rfl),dN.c ((cell_of_row _ _ 1 _ _ _ cf).trans rfl),dN.heap ig (by simp),dN.heap IN (by simp),by have hz:=dN.size;simpa using hz⟩:w2.cell? ⟨w.heap.size,0,none⟩=some (.slice ao p.v.length ac)/\w2.cell? ⟨w.heap.size,1,none⟩=some (.slice bo p.e.length bc)/\w2.heap[w.heap.size+1]?=some (.cells #[.slice none 0 0,.slice none 0 0] 27 (0,0))/\w2.heap[w.heap.size+2]?=some (.cells #[.slice none 0 0,.slice none 0 0] 27 (0,0))/\w.heap.size+3<=w2.heap.size));clear cf ig IN;have xJ:=lh (show (((w.alloc (.cells #[.slice ao p.v.length ac,.slice bo p.e.length bc] 27)).alloc (.cells #[.slice none 0 0,.slice none 0 0] 27)).alloc (.cells #[.slice none 0 0,.slice none 0 0] 27)).heap.size=w.heap.size+3 by simp);clear Tz;obtain⟨x0,x1,r4,r5,bs⟩:=HX.out _ (ai.refl _ _);have q0:=(cell_of_row _ _ 0 _ _ _ r5).trans (show _=some (Qb none 0 0) from rfl);have q1:=(cell_of_row _ _ 1 _ _ _ r5).trans (show _=some (Qb none 0 0) from rfl);have rD:=lh r5;have Ez:=lh r4;clear r4 r5;have HEV:=lh (HV.out.fresh gJ.out);go_enter Tryz.func22,Tryz.ntmps22;have hvv:aw (((w.alloc (.cells #[.slice ao p.v.length ac,.slice bo p.e.length bc] 27)).alloc (.cells #[.slice none 0 0,.slice none 0 0] 27)).alloc (.cells #[.slice none 0 0,.slice none 0 0] 27)) (w.heap.size+3) (.slice none 0 0) []:=da _ _;have HVV:=lh hvv;have qk:=lh (show (((w.alloc (.cells #[.slice ao p.v.length ac,.slice bo p.e.length bc] 27)).alloc (.cells #[.slice none 0 0,.slice none 0 0] 27)).alloc (.cells #[.slice none 0 0,.slice none 0 0] 27)).heap.size=w.heap.size+3 by simp);have Sm:p.v.length<4294967296:=by omega
 clear hvv;go_wp2_with (at_builtin;refine cH rfl _ _ rfl (B:=w.heap.size+3) rfl rfl HVV.out HEV.out (Nat.le_of_eq qk.out.symm) (by simp;omega) ?_;intro v4 w4 r4 c4 f4;rw[List.nil_append] at r4;obtain⟨vo,vc,rfl⟩:=r4.shape;have c4:ai [] _ w4:=c4;have s0:=c4.c q0;have s1:=c4.c q1;have e1:=c4.c x1;have g0:=bE (c4.heap rD.out (by simp)) 0;have R4:=lh r4;have C4:=lh (gJ.out.t c4);have H54:=lh (c4.heap rD.out (by simp));have HXW:=lh (λwx (h:ai [w.heap.size+2] w4 wx)=>Ql (h.c (c4.c x0)) (Ql (h.c (c4.c x1)) (h.heap (c4.heap Ez.out (by simp)) (by simp))));clear r4 c4 f4);obtain⟨pb,tO⟩:∃ n,w.heap.size+2=n:=⟨_,rfl⟩;have agj:w.heap.size+1+1=pb:=by omega
 rw[tO] at H54 HXW;rw[agj];have uF:=lh tO;have br:ai [pb] w4 (w4.setCell ⟨pb,0,none⟩ (.slice vo p.v.length vc)):=(ai.refl _ w4).setCell (Qm (by simp)) _;have fG:=lh br;have H55:=lh (heap_setCell_same H54.out 0 (.slice vo p.v.length vc));have hkd:∀ (wx:World) (v:Value) (q:List Int) (B:Nat),aw wx B v q->(∃ cs,wx.heap[pb]?=some (.cells cs 27 (0,0)))->pb ∉ v.ownBlock.toList:=λ_ _ _ _ h ⟨cs0,h0⟩ q=>by
  obtain⟨cs,r,hh⟩:=bu h _ (by rw[h.aC];exact q)
  grind
 have HKD:=lh hkd;have HV5:=lh (R4.out.aL br (λb hb q=>hkd _ _ _ _ R4.out ⟨_,H54.out⟩ (by grind)));clear br hkd s0 s1 e1 g0 q0 q1 x0 x1 agj tO;generalize w4.setCell ⟨pb,0,none⟩ (.slice vo p.v.length vc)=w5 at *;go_loopw [7,17] (λ_ c wr=>∃ k:Nat,k<=p.e.length/\c=.int .i64 k/\∃ uo uc,wr.heap[pb]?=some (.cells #[.slice vo p.v.length vc,.slice uo ((p.e.take k).filter λe=>e != x).length uc] 27 (0,0))/\aw wr w5.heap.size (.slice uo ((p.e.take k).filter λe=>e != x).length uc) ((p.e.take k).filter λe=>e != x)/\ai [pb] w5 wr) (λ_ c _=>p.e.length - (intOf c).toNat);case atStart=>exact⟨0,Qf _,rfl,none,0,H55.out,da _ _,ai.refl _ _⟩
 case round =>
  obtain⟨k,hk,rfl,uo,uc,ho,hr,hc⟩:=hrel;have HO:=lh ho;have HR:=lh hr;have HC:=lh hc;have aif:=lh (fG.out.trans hc (λj hj=>Qm hj));have qa:=lh (C4.out.trans aif.out (λj hj=>Qc (by rw[Qi] at hj;have:=uF.out;omega)));have o0:=(cell_of_row _ _ 0 _ _ _ ho).trans (show _=some (Qb vo p.v.length vc) from rfl);have o1:=(cell_of_row _ _ 1 _ _ _ ho).trans (show _=some (Qb uo ((p.e.take k).filter λe=>e != x).length uc) from rfl);obtain⟨x0,x1,r4⟩:=HXW.out wr aif.out;have ap9:=lh r4;clear ho hr hc r4;by_cases aW:k<p.e.length
  ·obtain⟨rb,sy,rfl,rc⟩:=aI.cellAt HE.out aW
   have bX:=qa.out.c rc;have uH:=lh (show (p.e.take (k+1)).filter (λe=>e != x)=(p.e.take k).filter (λe=>e != x)++(if (p.e.getD k 0 != x)=true then [p.e.getD k 0] else []) from dw _ aW);have Tb:bF (p.e.getD k 0):=HBI.out _ (aQ aW);have qY:=lh (show ((p.e.take k).filter λe=>e != x).length<=1000000 by grind);obtain⟨M,hM⟩:∃ M,(p.e.take k).filter (λe=>e != x)=M:=⟨_,rfl⟩;obtain⟨y,hy⟩:∃ y,p.e.getD k 0=y:=⟨_,rfl⟩;rw[hM] at HO HR uH qY o1;rw[hy] at uH Tb bX;have sd:M.length<4294967290:=by grind
   have Bb:=lh HC.out.size;clear rc hM hy;cases hb:(y != x) with
   | true =>
    have Pr:=lh (show (p.e.take (k+1)).filter (λe=>e != x)=M++[y] by rw[uH.out,hb];rfl);go_wp2_with (at_builtin;refine eN rfl _ _ rfl (B:=w5.heap.size) (v:=.slice uo M.length uc) rfl rfl HR.out Tb Bb.out sd rfl ?_;intro v6 w6 r6 c6 f6;obtain⟨o6,c66,rfl⟩:=r6.shape;have Ba:pb ∉ aC (Qb uo M.length uc):=HKD.out _ _ _ _ HR.out ⟨_,HO.out⟩;have t1:=c6.cell o1 Ba;have t0:=c6.cell o0 Ba;have t2:=bE (c6.heap HO.out Ba) 1;have H66:=lh (c6.heap HO.out Ba);have R6:=lh r6;have C6:=lh c6;clear r6 c6 f6 Ba);go_roundw;case rel =>
     have hl:(M++[y]).length=M.length+1:=by simp
     have h6:=R6.out;rw[hl] at h6;have br:ai [pb] w6 (w6.setCell ⟨pb,1,none⟩ (.slice o6 (M.length+1) c66)):=by grind [ai.refl,ai.setCell]
     refine⟨k+1,by omega,by go_num,o6,c66,?_,?_,?_⟩
     ·rw[Pr.out,hl];exact heap_setCell_same H66.out 1 _
     ·rw[Pr.out,hl];exact h6.aL br (λb hb q=>HKD.out _ _ _ _ h6 ⟨_,H66.out⟩ ((Qi.1 q) ▸ hb))
     exact (HC.out.trans C6.out (λj hj=>Qc ((HR.out.low j (by rw[<-HR.out.aC];exact hj)).1))).trans br (λj hj=>Qm hj)
    case measure=>simp[intOf];omega
   | false =>
    have Pr:=lh (show (p.e.take (k+1)).filter (λe=>e != x)=M by rw[uH.out,hb];simp);go_wp2;go_roundw;case rel=>exact⟨k+1,by omega,by go_num,uo,uc,by rw[Pr.out];exact HO.out,by rw[Pr.out];exact HR.out,HC.out⟩
    case measure=>simp[intOf];omega
  have e:k=p.e.length:=by omega
  subst e;rw[List.take_length] at HO HR o1;have r4:=ap9.out;have f0:=bE r4 0;have f1:=bE r4 1;obtain⟨tb,TK⟩:∃ n,w.heap.size+1=n:=⟨_,rfl⟩;have HTB:=lh TK;rw[TK] at r4 f0 f1 ⊢;obtain⟨M,hM⟩:∃ M,p.e.filter (λe=>e != x)=M:=⟨_,rfl⟩;have HM:=lh hM;rw[hM] at HO HR o1;have r0:=(cell_of_row _ _ 0 _ _ _ r4).trans (show _=some (Qb none 0 0) from rfl);have r1:=(cell_of_row _ _ 1 _ _ _ r4).trans (show _=some (Qb none 0 0) from rfl);have br:ai [tb] wr ((wr.setCell ⟨tb,0,none⟩ (.slice vo p.v.length vc)).setCell ⟨tb,1,none⟩ (.slice uo M.length uc)):=by grind [ai.refl,ai.setCell]
  have iS:=heap_setCell_same (heap_setCell_same r4 0 (.slice vo p.v.length vc)) 1 (.slice uo M.length uc);have ZO:=lh ((cell_of_row _ _ 0 _ _ _ iS).trans (show _=some (Qb vo p.v.length vc) from rfl));have Pc:=lh ((cell_of_row _ _ 1 _ _ _ iS).trans (show _=some (Qb uo M.length uc) from rfl));have hkt:∀ (v:Value) (q:List Int) (B:Nat),aw wr B v q->∀ b∈v.ownBlock.toList,b ∉ [tb]:=λv q B h b hb e=>by
   obtain⟨cs,r,hh⟩:=bu h b (by rw[h.aC];exact hb)
   grind
  have hrv:=HV5.out.aL HC.out (λb hb q=>HKD.out _ _ _ _ HV5.out ⟨_,H55.out⟩ (by grind));have WS:=lh ((hrv.aL br (hkt _ _ _ hrv)).ints);have sJ:=lh ((HR.out.aL br (hkt _ _ _ HR.out)).ints);have gU:=lh (qa.out.trans br (λj hj=>Qc (by grind)));have bn:¬ pb=tb:=by have:=uF.out;omega
  have KN:¬ tb=pb:=by grind
  clear br iS hkt hrv TK hM x0 x1 aW hk;go_wp2;refine bodyPost_ret (v:=.agg #[.slice vo p.v.length vc,.slice uo M.length uc]) (by have h0:=ZO.out;have h1:=Pc.out;simp[results,Tryz.results22,go_sem,h0,h1]) rfl ?_;exact⟨_,_,rfl,⟨_,_,rfl,WS.out,by show aI _ _ (p.e.filter λe=>e != x);rw[HM.out];exact sJ.out⟩,gU.out⟩
theorem RQ (n:Nat) (w:World) (hn:n<100000000) :
  Calls Tryz.prog 176 #[.slice none 0 0,.int .i64 n] w λe w'=>∃ v',e=.returned v'/\aw w' w.heap.size v' []/\ai [] w w':=by
 obtain⟨i0,hi,Er,kA,uC⟩:=info_parts cM.hi;go_enter Tryz.func176,Tryz.ntmps176;rcases n with _ | n
 ·go_wp2
  go_ret;exact⟨_,rfl,da _ _,ai.refl _ _⟩
 have hr:=Go.Lib.run_append_nil_zeros (P:=Tryz.prog) w 25 3 25 3 i0 (.int .i64 0) .i64 .i64 cM.ht Tryz.underlying3 hi Er (n+1) (by omega) (by omega) (by omega) (by grind);have hng:((n+1:Nat):Int) > 0:=by omega
 have hnn:¬ ((n+1:Nat):Int)<0:=by omega
 generalize hN:n+1=N at *;go_wp2_with (at_builtin;refine Go.Lib.wpList_append_run _ rfl _ _ _ _ rfl _ _ rfl rfl _ _ hr ?_);have jw:=grownCap_ge w N 0 3;have hle:=grownCap_le_maxLen w N 0 3 (by unfold maxLen;omega);have bs:(Builtin.zeroCells #[Qa .i64 0] N++Builtin.zeroCells #[Qa .i64 0] (grownCap w N 0 3 - N)).size=grownCap w N 0 3*1:=by
  simp only[Array.size_append,size_zeroCells]
  grind
 generalize Builtin.zeroCells #[Qa .i64 0] N++Builtin.zeroCells #[Qa .i64 0] (grownCap w N 0 3 - N)=Z at *;generalize grownCap w N 0 3=G at *;clear hr;have hh:=heap_alloc_new w (.cells Z 3);go_ret;refine⟨_,rfl,⟨⟨by simp[ints],Qc ⟨w.heap.size,G,Z,rfl,Qg _,hh,by simp,hle,bs,by simp[ints]⟩⟩,by simp,by simp⟩,((ai.refl [] w).alloc _).drew⟩
def tt (Ls:List (List Int)) (k:Nat):List Int:=(Ls.take k).flatten
theorem BJ {Ls:List (List Int)} {k:Nat} (hk:k<Ls.length):tt Ls (k+1)=tt Ls k++Ls.getD k []:=by
 unfold tt;rw[List.take_succ_eq_append_getElem hk,Qh]
 grind
theorem W8 (Ls:List (List Int)) (k:Nat):(tt Ls k).length<=Ls.flatten.length:=by
 unfold tt;have h:(Ls.take k).flatten++(Ls.drop k).flatten=Ls.flatten:=by rw[<-Qh,List.take_append_drop]
 grind
theorem ye (bb n c:Nat) (vs:Nat->Value) (Ls:List (List Int)) (w:World) (hn:Ls.length=n) (hnl:n<1000000) (hl:Ls.flatten.length<100000000) (hc:∀ k,k<n->w.cell? ⟨bb,k,none⟩=some (vs k)/\aI w (vs k) (Ls.getD k [])) :
  Calls Tryz.prog 127 #[.slice (some ⟨bb,0,none⟩) n c] w λe w'=>∃ v',e=.returned v'/\aw w' w.heap.size v' Ls.flatten/\ai [] w w':=by
 have HC:=lh hc;have PH:=lh (W8 Ls);clear hc;go_enter Tryz.func127,Tryz.ntmps127;go_wp2_with fail;go_loopw [3,5,11] (λc3 _ c wr=>∃ k:Nat,k<=n/\c=.int .i64 k/\c3=.int .i64 ((tt Ls k).length:Nat)/\wr=w) (λ_ _ c _=>n - (intOf c).toNat);case atStart=>exact⟨0,Qf _,rfl,rfl,rfl⟩
 case round =>
  obtain⟨k,hk,rfl,rfl,rfl⟩:=hrel;by_cases aW:k<n
  ·obtain⟨aS,hints⟩:=HC.out k aW
   obtain⟨uo,uc,eu,-,-,-⟩:=hints;rw[eu] at aS;have CQ:=lh (show (tt Ls (k+1)).length=(tt Ls k).length+(Ls.getD k []).length by rw[BJ (by omega),Qj]);have h1:=PH.out k;have h2:=PH.out (k+1);rw[CQ.out] at h2;have Bg:¬ (((tt Ls k).length:Int)+((Ls.getD k []).length:Int)<0):=by omega
   obtain⟨a,ha⟩:∃ a,(tt Ls k).length=a:=⟨_,rfl⟩;obtain⟨b,hb⟩:∃ b,(Ls.getD k []).length=b:=⟨_,rfl⟩;rw[ha] at CQ h1 h2 Bg ⊢;rw[hb] at CQ h2 Bg aS;clear ha hb eu;go_wp2;go_roundw;case rel=>exact⟨k+1,by omega,by go_num,by rw[CQ.out];go_num,trivial⟩
   case measure=>simp[intOf];omega
  have e:k=n:=by omega
  subst e;have Eu:=lh (show tt Ls k=Ls.flatten by unfold tt;rw[List.take_of_length_le (by omega)]);rw[Eu.out];obtain⟨T,hT⟩:∃ T,Ls.flatten.length=T:=⟨_,rfl⟩;have HT:=lh hT;rw[hT] at hl ⊢;clear hT;go_wp2_with fail;refine (RQ T _ hl).mono ?_;rintro e w2 ⟨v2,rfl,cD,bI⟩;obtain⟨o2,c2,rfl⟩:=cD.shape;obtain⟨B,hB⟩:∃ B,wr.heap.size=B:=⟨_,rfl⟩;have HB:=lh hB;rw[hB] at cD;have Bp:=lh cD;have bU:=lh bI;clear cD bI aW hk hB;go_wp2_with fail;go_loopw [6,8,27] (λc6 _ c wx=>∃ i:Nat,i<=k/\c=.int .i64 i/\aw wx B c6 (tt Ls i)/\ai [] wr wx) (λ_ _ c _=>k - (intOf c).toNat);case atStart=>exact⟨0,Qf _,rfl,Bp.out,bU.out⟩
  case round =>
   obtain⟨i,hi,rfl,hr,eV⟩:=hrel;have HR:=lh hr;have xS:=lh eV;obtain⟨oo,oc,rfl⟩:=hr.shape;clear hr eV;by_cases Vg:i<k
   ·obtain⟨aS,hints⟩:=HC.out i Vg
    have FY:=lh (hints.fresh xS.out);obtain⟨uo,uc,eu,-,-,-⟩:=hints;have CQ:=lh (BJ (Ls:=Ls) (k:=i) (by omega));have h2:=PH.out (i+1);rw[CQ.out,HT.out,Qj] at h2;have ck:=xS.out.c aS;rw[eu] at ck;have hIN:=FY.out;rw[eu] at hIN;have ahC:=lh hIN;obtain⟨M,hM⟩:∃ M,tt Ls i=M:=⟨_,rfl⟩;obtain⟨L,hL⟩:∃ L,Ls.getD i []=L:=⟨_,rfl⟩;rw[hM] at HR CQ h2 ⊢;rw[hL] at CQ h2 ck ahC;have qk:=lh (by have:=xS.out.size;rwa[HB.out] at this);have RV:M.length+L.length<4294967296:=by omega
    clear aS eu hIN hM hL h2;go_wp2_with (at_builtin;refine cH rfl _ _ rfl (B:=B) (v:=.slice oo _ oc) rfl rfl HR.out ahC.out qk.out RV ?_;intro v6 w6 r6 c6 f6;have R6:=lh r6;have C6:=lh c6;clear r6 c6 f6);go_roundw;case rel=>exact⟨i+1,by omega,by go_num,by rw[CQ.out];exact R6.out,xS.out.trans C6.out (λj hj=>Qc (by rw[HB.out];exact (HR.out.low j (by rw[<-HR.out.aC];exact hj)).1))⟩
    case measure=>simp[intOf];omega
   have e:i=k:=by omega
   subst e;rw[Eu.out] at HR ⊢;clear hi Vg;go_wp2;go_ret;exact⟨_,rfl,by rw[HB.out];exact HR.out,xS.out⟩
theorem pE (u v:Value) (l m:List Int) (w:World) (h1:aI w u l) (h2:aI w v m) (hl:l.length+m.length<1000000) :
  Calls Tryz.prog 127 #[.slice (some ⟨w.heap.size,0,none⟩) 2 2] (w.alloc (.cells #[u,v] 25)) λe w'=>∃ v',e=.returned v'/\aw w' w.heap.size v' (l++m)/\ai [] w w':=by
 have hc:=(ai.refl [] w).alloc (.cells #[u,v] 25);have hb:=heap_alloc_new w (.cells #[u,v] 25);refine (ye w.heap.size 2 2 (λk=>if k=0 then u else v) [l,m] _ rfl (by omega) (by simp;omega) (λk hk=>by
  rcases (show k=0\/k=1 by omega) with rfl | rfl
  ·exact⟨(cell_of_row _ _ 0 _ _ _ hb).trans rfl,h1.fresh hc⟩
  exact⟨(cell_of_row _ _ 1 _ _ _ hb).trans rfl,h2.fresh hc⟩)).mono ?_
 rintro e w' ⟨v',rfl,hr,hc'⟩;exact⟨v',rfl,by simpa using hr.base hc.size,hc.tr hc'⟩
theorem Uu (v:Value) (l:List Int) (B:Nat) (w:World) (hn:l.length<1000000000) (h:aw w B v l) :
  Calls Tryz.prog 202 #[v] w λe w'=>e=.returned (.tuple #[])/\aw w' B v l.reverse/\ai v.ownBlock.toList w w':=by
 obtain⟨ao,c,rfl⟩:=h.shape;by_cases h0:l=[]
 ·subst h0
  refine (Tryz.slices_Reverse_int_empty ao c w).mono ?_
  grind [ai.refl]
 obtain⟨g,cap,e⟩:=dj h.1 (List.length_pos_iff.2 h0);cases e;have hl:(ints l).length=l.length:=by simp[ints]
 have b9:=h.1;rw[<-hl] at b9;have hH:Go.Sort.Holds (Qa .i64) w g 0 l.toArray:=kI b9 (by simp[ints]);refine (Tryz.slices_Reverse_int g 0 _ l w hH (by omega)).mono ?_;rintro e w' ⟨rfl,n,rfl⟩;have hs:l.reverse.length=l.length:=List.length_reverse;have he:Go.Sort.putRow (Qa .i64) (Go.Sort.ahead w n) g 0 l.reverse.toArray=sortWorld (Qa .i64) w g 0 n l.reverse.toArray #[]:=by
  unfold sortWorld;simp[Go.Sort.grow];rfl
 rw[he];have qU:=mf (enc:=Qa .i64) (n:=n) (os:=#[]) (d:=l.reverse.toArray) b9 (by simp[hl]);refine⟨rfl,⟨?_,λx hx=>h.2.1 x (List.mem_reverse.1 hx),by grind⟩,?_⟩
 ·rw[hl] at qU
  rw[hs];exact qU
 exact np (Qa .i64) w g n #[] _
namespace Plain
theorem BF.inv {g:Gr} {bd:ju} {a u:Int} {l:List Int} (h:BF g bd a u l):(l=[]/\u=a)\/∃ d m,l=m++[d]/\u≠a/\bd u=some d/\0<=d/\BF g bd a (g.tail d) m:=by
 cases h with
 | here=>exact Qm ⟨rfl,rfl⟩
 | step h1 h2 h3 h4 h5 h6=>exact Qc ⟨_,_,rfl,h1,h2,h3,h5⟩
end Plain
theorem JG (sb N m mb:Nat) (vE:Value) (g:Gr) (bd:ju) (a:Int) (v:Nat) (l:List Int) (w:World) (hG:pn w sb g vE N) (hM:dx w mb m bd) (hv:v<1000000) (hb:bd a=some (-1)) (ht:BF g bd a v l) (hl:l.length<1000000) (hd:∀ d∈l,0<=d/\d / 2<g.e.length) :
  Calls Tryz.prog 180 #[.pointer (some ⟨sb,0,none⟩),.map (some mb),.int .i64 v] w λe w'=>∃ v',e=.returned v'/\aw w' w.heap.size v' l/\ai [] w w':=by
 have HG:=lh hG;have HM:=lh hM;have HB:=lh hb;have HD:=lh hd;have HT:=lh ht;have iL:=lh hG.small;have Jh:bF (v:Int):=bF.mk (by omega) (by omega);have HGV:=lh (show (bd (v:Int)).getD 0=(bd (v:Int)).getD 0 from rfl);obtain⟨d0,rH⟩:∃ d0,(bd (v:Int)).getD 0=d0:=⟨_,rfl⟩;have Xc:=lh rH;rw[rH] at HGV;clear hG hM hb hd ht rH;go_enter Tryz.func180,Tryz.ntmps180;go_wp2_with (at_lookup;refine xV _ rfl _ _ rfl HM.out rfl Jh rfl Xc.out ?_);go_loopg [7,8] (l.length+1) (λfuel c7 c8 wr=>∃ (u z:Int) (l1 M:List Int),c8=.int .i64 z/\aw wr w.heap.size c7 M/\Hid (z=(bd u).getD 0/\BF g bd a u l1/\l=l1++M.reverse)/\l1.length<fuel/\fuel<=l.length+1/\ai [] w wr)
 case atStart=>exact⟨v,d0,l,[],rfl,da _ _,lh ⟨Xc.out.symm,HT.out,by simp⟩,by omega,Qg _,ai.refl _ _⟩
 case round =>
  obtain⟨u,z,l1,M,rfl,aT,hinv,hlf,A8,hc⟩:=hrel;have bA:=lh aT;have HC:=lh hc;obtain⟨oo,oc,rfl⟩:=aT.shape;have qY:=lh (show l1.length+M.length=l.length by have:=congrArg List.length hinv.out.2.2;simp at this;omega);clear aT hc;rcases hinv.out.2.1.inv with ⟨rfl,rfl⟩ | ⟨d,l2,rfl,UU,hcu,rH,JC⟩
  ·have hz:z = -1:=by rw[hinv.out.1,HB.out];rfl
   subst hz;have HE:=lh (show l=M.reverse by have:=hinv.out.2.2;simpa using this);have sd:M.length<1000000000:=by have:=qY.out;simp at this;omega
   clear hlf;go_wp2_with fail;refine (Uu _ M w.heap.size _ sd bA.out).mono ?_;rintro e w2 ⟨rfl,cD,bI⟩;have Bp:=lh (show aw w2 w.heap.size (.slice oo M.length oc) l by rw[HE.out];exact cD);have bU:=lh (HC.out.trans bI (λj hj=>Qc (bA.out.low j hj).1));clear cD bI;go_wp2;go_ret;exact⟨_,rfl,Bp.out,bU.out⟩
  have hz:z=d:=by rw[hinv.out.1,hcu];rfl
  subst hz;have uN:=HD.out z (by rw[hinv.out.2.2];simp);obtain⟨n,y,hn,kr,hy,hyN,hn4⟩:=HG.out.Gq uN.1 uN.2;subst hn;have FY:=lh (show BF g bd a (y:Int) l2/\l=l2++(M++[(n:Int)]).reverse from⟨by grind,by rw[hinv.out.2.2];simp⟩);have HY:=lh hy;have hng:(n:Int) ≥ 0:=by omega
  have amZ:bF (n:Int):=by grind [bF.mk]
  have aqb:bF (y:Int):=bF.mk (by omega) (by have:=iL.out;omega);obtain⟨z1,kA⟩:∃ z1,(bd (y:Int)).getD 0=z1:=⟨_,rfl⟩;have HZ1:=lh kA;have sd:M.length<4294967290:=by have:=qY.out;simp at this;omega
  have qk:=lh HC.out.size;have apn:l2.length<gk - 1:=by grind
  have EX:gk - 1<=l.length+1:=by omega
  have hgp:0<gk:=by omega
  clear kA hy hcu UU JC rH hinv uN hlf A8;go_wp2_with (at_builtin;refine eN rfl _ _ rfl (B:=w.heap.size) (v:=.slice oo _ oc) rfl rfl bA.out amZ qk.out sd rfl ?_;intro v6 w6 r6 c6 f6;have R6:=lh r6;have C6:=lh (HC.out.trans c6 (λj hj=>Qc (bA.out.low j (by rw[<-bA.out.aC];exact hj)).1));clear r6 c6 f6;have q0:=C6.out.c HG.out.c0;have q1:=C6.out.c HG.out.c1);refine (dH _ g n _ kr (by have:=iL.out;omega) (HG.out.fresh C6.out).gr).mono ?_;rintro _ w7 ⟨rfl,hc7⟩;rw[HY.out];have oT:=lh (C6.out.t hc7);have Ew:=lh (R6.out.aL hc7 (by simp));clear hc7 q0 q1;go_wp2_with (at_lookup;refine xV _ rfl _ _ rfl (HM.out.aL oT.out (by simp)) rfl aqb rfl HZ1.out ?_);go_roundg (gk - 1)
  case measure=>omega
  case rel=>exact⟨y,z1,l2,M++[(n:Int)],rfl,Ew.out,lh ⟨HZ1.out.symm,FY.out.1,FY.out.2⟩,apn,EX,oT.out⟩
