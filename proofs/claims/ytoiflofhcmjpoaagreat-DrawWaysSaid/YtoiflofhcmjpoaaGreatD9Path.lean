/- package walk: the contract of Path. Conditions: a right part that lies in memory and reads so; two vertices of it. -/
import Derived.Test.YtoiflofhcmjpoaaGreatD9SkQ
import Derived.Lib.AppendZeros
open Go.Value renaming int→Qa,slice→Qb
open Or renaming inr→Qc,inl→Qm
open Go.Act renaming put→Qd
open List renaming mem_filter→Qe,flatten_append→Qh,mem_singleton→Qi,length_append→Qj,mem_cons→Qk
open Nat renaming zero_le→Qf,le_refl→Qg,le_trans→Qn
open And renaming intro→Ql
-- READS ONLY
namespace Go.Proofs.YtoiflofhcmjpoaaGreat
open Go.RowKit Go.Maps
namespace Plain
def kt (g:Gr) (p:Pt) (v:Int):List Int:=p.ah.filter fun d=>decide (g.tail d=v)
def kE (g:Gr) (p:Pt) (f:Int->Option Int) (n:Nat) (v:Int):Int:=(kt g p v).getD (Ay (fun d=>decide ((f (g.head d)).getD 0=n)) (kt g p v)).toNat 0
def dg (g:Gr) (p:Pt) (f:Int->Option Int):Nat->Int->List Int
 | 0,_=>[]
 | n+1,v=>kE g p f n v :: dg g p f n (g.head (kE g p f n v))
def gT (g:Gr) (p:Pt) (a b:Int):Option (List Int):=(dD g p (-1) b a).map fun c=>dg g p (dD g p (-1) b) c.toNat a
theorem vL {g:Gr} {p:Pt} {a v:Int} {f:Int->Option Int} {n:Nat} (h:mO g p a f) (hv:f v=some ((n:Int)+1)) (dH:∀ d∈p.ah,g.tail d=v->f (g.head d)≠none) :
  ∃ k:Nat,Ay (fun d=>decide ((f (g.head d)).getD 0=(n:Int))) (kt g p v)=(k:Int)/\k<(kt g p v).length/\(kt g p v).getD k 0=kE g p f n v/\kE g p f n v∈p.ah/\g.tail (kE g p f n v)=v/\f (g.head (kE g p f n v))=some (n:Int):=by
 have bh:v≠a:=fun e=>by rw[e,h.base] at hv;simp at hv;omega
 obtain⟨d,hd,ht,hh⟩:=h.prev v _ hv bh;have zR:d∈kt g p v:=Qe.2 ⟨hd,decide_eq_true ht⟩;have ag6:(kt g p v).any (fun d=>decide ((f (g.head d)).getD 0=(n:Int)))=true:=List.any_eq_true.2 ⟨d,zR,decide_eq_true (by grind)⟩;have yk:=G4 (P:=fun d=>decide ((f (g.head d)).getD 0=(n:Int))) (l:=kt g p v);rw[ag6] at yk;have yk:Ay (fun d=>decide ((f (g.head d)).getD 0=(n:Int))) (kt g p v) ≥ 0:=of_decide_eq_true yk;unfold Ay at yk;cases hf:(kt g p v).findIdx? (fun d=>decide ((f (g.head d)).getD 0=(n:Int))) with
 | none=>rw[hf] at yk;exact absurd yk (by grind)
 | some k =>
  have qN:Ay (fun d=>decide ((f (g.head d)).getD 0=(n:Int))) (kt g p v)=(k:Int):=by unfold Ay;rw[hf]
  obtain⟨hk,hp,-⟩:=List.findIdx?_eq_some_iff_getElem.1 hf;have BK:(kt g p v).getD k 0=kE g p f n v:=by unfold kE;rw[qN,Int.toNat_natCast]
  have hm:kE g p f n v∈kt g p v:=by rw[<-BK];simp[List.getD,hk]
  obtain⟨nT,jo⟩:=Qe.1 hm;have Hl:=of_decide_eq_true jo;refine⟨k,qN,hk,BK,nT,Hl,?_⟩;have Ae:=of_decide_eq_true hp;have e:(kt g p v)[k]=kE g p f n v:=by rw[<-BK];simp[List.getD,hk]
  rw[e] at Ae;cases hq:f (g.head (kE g p f n v)) with
  | none=>exact absurd hq (dH _ nT Hl)
  | some c=>rw[hq] at Ae;simp at Ae;rw[Ae]
end Plain
set_option maxHeartbeats 1000000 in
theorem Ke (n i JL gb ib mp m:Nat) (eo:Option Addr) (cap:Nat) (g:Plain.Gr) (f:Int->Option Int) (w:World) (hd:n / 2<g.e.length) (hm:g.e.length<4294967296) (hx:aU (g.head n)) (hi:i<1000000) (hf:∀ c,f (g.head n)=some c->0<=c/\c<=1000000) (c1:w.cell? ⟨JL,0,none⟩=some (.map (some mp)))
  (c2:w.cell? ⟨gb,0,none⟩=some (.int .i64 g.n)) (c3:w.cell? ⟨gb,1,none⟩=some (.slice eo g.e.length cap)) (c4:w.cell? ⟨ib,0,none⟩=some (.int .i64 ((i:Int)+1))) (hM:bK w mp m f) (hg:dJ w (.agg #[.int .i64 g.n,.slice eo g.e.length cap]) g) :
  Calls Tryz.prog 174 #[.int .i64 n,.pointer (some ⟨JL,0,none⟩),.pointer (some ⟨gb,0,none⟩),.pointer (some ⟨ib,0,none⟩)] w fun e w'=>e=.returned (.bool (decide ((f (g.head n)).getD 0=i)))/\ag [] w w':=by
 have HM:=lh hM;have HG:=lh hg;have HF:=lh (show 0<=(f (g.head n)).getD 0/\(f (g.head n)).getD 0<=1000000 by
  cases hq:f (g.head n) with
  | none=>simp
  | some c=>exact hf c hq)
 have YP:=lh (fun (wx:World) (h:ag [] w wx)=>(hM.aD h (by simp)).vY hx);obtain⟨x,MF⟩:∃ x,g.head n=x:=⟨_,rfl⟩;obtain⟨y,hy⟩:∃ y,(f (g.head n)).getD 0=y:=⟨_,rfl⟩;rw[hy] at HF YP ⊢;rw[MF] at YP;have HX:=lh MF;obtain⟨hy0,DP⟩:=HF.out;clear hM hg MF hy hf hx
 go_enter Tryz.func174,Tryz.ntmps174
 go_wp2_with fail
 have aW:ag [] w w.drew:=(ag.refl [] w).drew;refine ar (ag [] w) [0,1,2,4,5,6,7,8] (Way.line [0,1,2,5,6,3,4,7,8] .done) (by kernel_rfl) (by kernel_rfl) ?_;simp only[Way.line]
 repeat (refine ai (v:=?_) rfl (by rfl) (by rfl) (fun _ _ _ h=>h) aW (fun w' aI=>?_) ?_;rotate_left;(focus (have gB:=aI.c c1;have gQ:=aI.c c2;have np:=aI.c c3;have Hg:=aI.c c4;clear aI;go_simp;try with_reducible rfl));simp only[Qd,Z1,Z2,Z3,Z4,Z5,Z6])
 refine au rfl (by rfl) (by rfl) (fun K hK=>?_);go_simp;refine (lX _ g n _ hd hm (HG.out.fresh aW)).mono ?_;rw[HX.out];rintro e w3 ⟨rfl,cT⟩;have bF:ag [] w w3:=aW.t cT;refine hK.out _ _ (fun _=>bF) ?_;clear hK K cT aW
 try simp only[Qd,Z1,Z2,Z3,Z4,Z5,Z6]
 repeat (refine ai (v:=?_) rfl (by rfl) (by rfl) (fun _ _ _ h=>h) bF (fun w' aI=>?_) ?_;rotate_left;(focus (have rdl:=YP.out _ aI;clear aI;go_simp;try with_reducible rfl));simp only[Qd,Z1,Z2,Z3,Z4,Z5,Z6])
 refine aC ?_;go_wp2;go_ret;exact⟨bm (by rw[show IntKind.i64.wrap (i:Int)=i from IntWalk.i64_in _ (by omega)];rfl),bF⟩
set_option maxRecDepth 100000 in
set_option maxHeartbeats 2000000 in
theorem Fx (i JL gb ib mp m:Nat) (eo:Option Addr) (cap:Nat) (g:Plain.Gr) (f:Int->Option Int) (v:Value) (q:List Int) (w:World) (hq:∀ d∈q,0<=d/\d / 2<g.e.length/\aU (g.head d)) (Ky:q.length<1000000000) (hm:g.e.length<1000000) (hi:i<1000000) (hf:∀ u c,f u=some c->0<=c/\c<=1000000) (hv:al w v q) (c1:w.cell? ⟨JL,0,none⟩=some (.map (some mp)))
  (c2:w.cell? ⟨gb,0,none⟩=some (.int .i64 g.n)) (c3:w.cell? ⟨gb,1,none⟩=some (.slice eo g.e.length cap)) (c4:w.cell? ⟨ib,0,none⟩=some (.int .i64 ((i:Int)+1))) (hM:bK w mp m f) (hg:dJ w (.agg #[.int .i64 g.n,.slice eo g.e.length cap]) g) :
  Calls Tryz.prog 109 #[v,.func (Fn.func 174) #[] #[.pointer (some ⟨JL,0,none⟩),.pointer (some ⟨gb,0,none⟩),.pointer (some ⟨ib,0,none⟩)]] w fun e w'=>e=.returned (.int .i64 (Plain.Ay (fun d=>decide ((f (g.head d)).getD 0=(i:Int))) q))/\ag [] w w':=by
 have HQ:=lh hq;have HV:=lh hv;have HF:=lh hf;have HM:=lh hM;have HG:=lh hg;have H1:=lh c1;have H2:=lh c2;have H3:=lh c3;have H4:=lh c4;obtain⟨ao,ac,rfl,-,-,-⟩:=hv;clear hq c1 c2 c3 c4 hM hg hf;obtain⟨P,hP⟩:∃ P:Int->Bool,(fun d=>decide ((f (g.head d)).getD 0=(i:Int)))=P:=⟨_,rfl⟩;have HP:=lh (fun d=>show decide ((f (g.head d)).getD 0=(i:Int))=P d from congrFun hP d);rw[hP];clear hP
 go_enter Tryz.func109,Tryz.ntmps109
 go_wp2
 go_loopw [8] (fun c wr=>∃ k:Nat,k<=q.length/\c=.int .i64 k/\Hid (∀ j,j<k->P (q.getD j 0)=false)/\ag [] w wr) (fun c _=>q.length - (intOf c).toNat)
 case atStart=>exact⟨0,Qf _,rfl,lh (by omega),ag.refl _ _⟩
 case round =>
  obtain⟨k,hk,rfl,HN,hc⟩:=hrel;have HC:=lh hc;by_cases aL:k<q.length
  ·obtain⟨rb,iR,rfl,rc⟩:=al.cellAt HV.out aL
   have cz:=hc.c rc;have hr:=HQ.out _ (Plain.aQ aL);have xc:=lh (fun (h:P (q.getD k 0)=true)=>Plain.tk (P:=P) aL h HN.out);have qH:=lh (fun (h:P (q.getD k 0)=false) j (hj:j<k+1)=>(show P (q.getD j 0)=false from by
    by_cases e:j=k
    ·rw[e];exact h
    exact HN.out j (by omega)))
   obtain⟨n,e1⟩:∃ n:Nat,q.getD k 0=n:=⟨(q.getD k 0).toNat,by omega⟩;rw[e1] at cz xc qH hr;have iI:n / 2<g.e.length:=by grind
   have aiq:=lh hr.2.2;clear rc e1 hc hr
   go_wp2_with fail
   refine (Ke n i JL gb ib mp m eo cap g f _ iI (by omega) aiq.out hi (fun c h=>HF.out _ c h) (HC.out.c H1.out) (HC.out.c H2.out) (HC.out.c H3.out) (HC.out.c H4.out) (HM.out.aD HC.out (by simp)) (HG.out.fresh HC.out)).mono ?_;rintro e w2 ⟨rfl,bA⟩;rw[HP.out];have cB:=lh (HC.out.t bA);clear bA cz;cases h:P (n:Int) with
   | true =>
    have HI:=lh (xc.out h);clear h;go_wp2;go_ret;exact⟨bO (show ((k:Nat):Int)=_ by rw[HI.out]),cB.out⟩
   | false =>
    have HI:=lh (qH.out h);clear h;go_wp2
    go_roundw
    case rel=>exact⟨k+1,by omega,by go_num,HI,cB.out⟩
    case measure=>simp[intOf];omega
  have e:k=q.length:=by omega
  subst e;have HI:=lh (Plain.pN (P:=P) HN.out);clear hc;go_wp2;go_ret;exact⟨bO (show (-1:Int)=_ by rw[HI.out]),HC.out⟩
end Go.Proofs.YtoiflofhcmjpoaaGreat
-- READS ONLY
namespace Go.Proofs.YtoiflofhcmjpoaaGreat
open Go.RowKit Go.Maps
namespace Plain
theorem lW {g:Gr} {p:Pt} {b:Int} {f:Int->Option Int} (hp:aB g p) (h0:∀ v∈p.v,0<=v) (h:mO g p b f) (hc:∀ v,f v≠none↔b9 g p (-1) b v):∀ (n:Nat) (v:Int),f v=some (n:Int)->kg g v (dg g p f n v) b/\(∀ d∈dg g p f n v,d∈p.ah)/\(∀ d∈dg g p f n v,∃ c:Nat,f (g.tail d)=some (c:Int)/\c<=n)/\((dg g p f n v).map g.tail).Nodup
 | 0,v,hv=>by
  have TU:v=b:=by
   by_cases e:v=b
   ·exact e
   have:=h.zero v _ hv e;omega
  subst TU;exact⟨rfl,by simp[dg],by simp[dg],by simp[dg]⟩
 | n+1,v,hv=>by
  obtain⟨k,-,-,-,h4,h5,h6⟩:=vL h (v:=v) (n:=n) (by rw[hv];congr 1) (fun d hd ht=>by
   have h1:=(hc v).1 (by grind);have h2:=eR (g:=g) hd;rw[ht] at h2;have h3:=h0 _ (hp.aO hd).2;exact (hc _).2 (h1.step h2 (by omega)))
  obtain⟨i1,i2,i3,i4⟩:=lW hp h0 h hc n _ h6;refine⟨⟨h5,i1⟩,fun d hd=>?_,fun d hd=>?_,?_⟩
  ·rcases Qk.1 hd with r | r
   ·rw[r];exact h4
   exact i2 d r
  ·rcases Qk.1 hd with r | r
   ·exact⟨n+1,by rw[r,h5,hv],Qg _⟩
   obtain⟨c,c1,c2⟩:=i3 d r;exact⟨c,c1,by omega⟩
  rw[dg,List.map_cons,List.nodup_cons];refine⟨fun q=>?_,i4⟩;obtain⟨d,hd,e⟩:=List.mem_map.1 q;obtain⟨c,c1,c2⟩:=i3 d hd;rw[e,h5,hv] at c1;simp at c1;omega
end Plain
theorem fL.vs {w:World} {u1 u2:Value} {p:Plain.Pt} (h:fL w (.agg #[u1,u2]) p):al w u1 p.v:=by
 obtain⟨v1,v2,e,h1,-⟩:=h
 grind
set_option maxRecDepth 100000 in
set_option maxHeartbeats 4000000 in
theorem MM (vg vp:Value) (g:Plain.Gr) (p:Plain.Pt) (a b:Int) (w:World) (hr:p.err g=0) (ha:a∈p.v) (hb:b∈p.v) (hg:dJ w vg g) (hp:fL w vp p) :
  Calls Tryz.prog 126 #[vg,vp,.int .i64 a,.int .i64 b] w fun e w'=>∃ v',e=.returned (.tuple #[v',.bool (Plain.gT g p a b).isSome])/\aj w' w.heap.size v' ((Plain.gT g p a b).getD [])/\(Plain.mO g p b (Plain.dD g p (-1) b)/\∀ v,Plain.dD g p (-1) b v≠none↔Plain.b9 g p (-1) b v)/\ag [] w w':=by
 have HR:=lh hr;have HA:=lh ha;have HBV:=lh hb;have nN:=lh (Plain.Pt.ay hr);have iE:=lh (Plain.Gr.aA (Plain.Pt.aA hr).1);have Hw:=lh (Plain.bM (Plain.Pt.aA hr).2.1);have s9:=lh (Plain.Pt.aA hr).2.2.1;have oF:=lh (show p.e.length<=1024 by have:=eT (Plain.Pt.aA hr).2.2.1;have:=(Plain.Gr.aA (Plain.Pt.aA hr).1);omega);have fP:=lh (show ∀ u∈p.v,0<=u/\u<1025 from fun u hu=>by have:=nN.out.vr u hu;have:=iE.out.2.1;omega);have vH:=lh (show p.v.length<=1025 from j7 (N:=1025) (Hw.out.imp fun h=>by omega) (fun u hu=>by have:=fP.out u hu;omega));have Ua:aU a:=aU.mk (by have:=fP.out a ha;omega) (by have:=fP.out a ha;omega);have hib:aU b:=aU.mk (by have:=fP.out b hb;omega) (by have:=fP.out b hb;omega);have qM:p.v.length<=100000:=by have:=vH.out;omega
 clear hr ha hb;obtain⟨eo,cap,ao,ac,bo,bc,rfl,rfl,HG,HP,hm,DA,sQ,Bq,uE,S4,Ko,b8,dh⟩:=lN hg hp;clear hg hp;obtain⟨x0,x1,y0,y1,dj⟩:=dh.out _ (ag.refl _ _)
 go_enter Tryz.func126,Tryz.ntmps126
 go_wp2_with fail
 obtain⟨w1,qK⟩:∃ w1,((w.alloc (.cells #[.int .i64 g.n,.slice eo g.e.length cap] 24)).alloc (.cells #[.slice ao p.v.length ac,.slice bo p.e.length bc] 27))=w1:=⟨_,rfl⟩;rw[qK] at b8 dh ⊢;clear qK x0 x1 y0 y1 dj;refine (eW _ _ g p _ (by omega) (HG.out.fresh b8.out) (HP.out.fresh b8.out)).mono ?_;rintro e w2 ⟨rfl,bA⟩;rw[HR.out];have cB:=lh (b8.out.tr bA);have xd:=lh bA;obtain⟨x0,x1,y0,y1,dj⟩:=dh.out _ bA;clear bA
 go_wp2_with fail
 refine (tl _ p.v a _ Hw.out (by omega) (HP.out.fresh cB.out).vs).mono ?_;rintro e w3 ⟨rfl,cT⟩;rw[show decide (a∈p.v)=true from decide_eq_true HA.out];have cU:=lh (cB.out.tr cT);have acq:=lh (xd.out.tr cT);obtain⟨x0,x1,y0,y1,dj⟩:=dh.out _ acq.out;clear cT
 go_wp2_with fail
 refine (tl _ p.v b _ Hw.out (by omega) (HP.out.fresh cU.out).vs).mono ?_;rintro e w4 ⟨rfl,gR⟩;rw[show decide (b∈p.v)=true from decide_eq_true HBV.out];have iO:=lh (cU.out.tr gR);have aal:=lh (acq.out.tr gR);obtain⟨x0,x1,y0,y1,dj⟩:=dh.out _ aal.out;clear gR
 go_wp2_with fail
 refine (rU _ _ g p _ (by have:=oF.out;omega) HR.out (HG.out.fresh iO.out) (HP.out.fresh iO.out)).mono ?_;rintro e w5 ⟨mb,rfl,hm5,eO,AQ⟩;have Ia:=lh (show SMap w5 mb (2*p.e.length) (Plain.kt g p) from hm5);have ga:=lh (iO.out.tr eO);have ZM:=lh (aal.out.tr eO);obtain⟨x0,x1,y0,y1,dj⟩:=dh.out _ ZM.out;clear eO hm5
 go_wp2_with fail
 refine (Jo _ g p mb (2*p.e.length) b (-1) _ (by have:=oF.out;omega) (by omega) HR.out HBV.out hib (aU.mk (by omega) (by omega)) (HG.out.fresh ga.out) Ia.out).mono ?_;rintro e w6 ⟨rb,m,rfl,hm6,oP,hprev,xu,hc6,Kw,nI⟩;have uK:=lh hm6;have TL:=lh oP;have YU:=lh hprev;have DS:=lh xu;have ky:=lh (ga.out.tr hc6);have aaz:=lh (ZM.out.tr hc6);have acE:=lh hc6;obtain⟨x0,x1,y0,y1,dj⟩:=dh.out _ aaz.out;obtain⟨f,hf⟩:∃ f,Plain.dD g p (-1) b=f:=⟨_,rfl⟩;have HPF:=lh (show Plain.gT g p a b=(f a).map fun c=>Plain.dg g p f c.toNat a by unfold Plain.gT;rw[hf]);have EA:=lh (Ql YU.out TL.out);rw[hf] at uK TL YU DS;clear hm6 oP hprev xu hc6 hf;have HZ6:=lh dj;obtain⟨JL,OA⟩:∃ n,w6.heap.size=n:=⟨_,rfl⟩;have hw6:w.heap.size+2<=JL:=by have:=HZ6.out;omega
 have Se:=lh hw6;have pX:=lh ((ag.refl [] w6).alloc (.cells #[.map (some rb)] 124));have B9:=lh (uK.out.aD pX.out (by simp));cases Ef:f a with
 | none =>
  have yc:=lh Ef;have S9:=lh (show Plain.gT g p a b=none by rw[HPF.out,Ef];rfl);clear Ef OA hw6
  go_wp2_with (at_lookup;refine di _ rfl _ _ rfl B9.out rfl Ua rfl yc ?_)
  refine bodyPost_ret (v:=.tuple #[.slice none 0 0,.bool false]) (by simp[results,Tryz.results126,go_sem]) rfl ?_;rw[S9.out];exact⟨_,rfl,eJ _ _,EA.out,(ky.out.tr pX.out).alloc _⟩
 | some c =>
  have yc:=lh Ef;have gO:=YU.out.low a c Ef;have cY:=DS.out a c Ef;obtain⟨C,rfl⟩:∃ C:Nat,c=C:=⟨c.toNat,by omega⟩;have S9:=lh (show Plain.gT g p a b=some (Plain.dg g p f C a) by rw[HPF.out,Ef];rfl);have EJ:=lh (show C<=1025 by have:=vH.out;omega);have arI:aU (C:Int):=aU.mk (by omega) (by omega);clear Ef gO cY hw6
  go_wp2_with (at_lookup;refine eG _ rfl _ _ rfl B9.out rfl Ua rfl yc ?_)
  have hba:=heap_alloc_new w6 (.cells #[.map (some rb)] 124);have Re:(w6.alloc (.cells #[.map (some rb)] 124)).heap.size=JL+1:=by rw[<-OA];simp
  have O5:=heap_alloc_new (w6.alloc (.cells #[.map (some rb)] 124)) (.cells #[.int .i64 (C:Int)] 3);rw[Re] at O5;have qJ:ag [] (w6.alloc (.cells #[.map (some rb)] 124)) ((w6.alloc (.cells #[.map (some rb)] 124)).alloc (.cells #[.int .i64 (C:Int)] 3)):=(ag.refl [] _).alloc _;have HBA:=lh (qJ.hp hba);have YL:=lh O5;have DB:=lh (pX.out.tr qJ);clear hba Re O5 qJ;generalize (w6.alloc (.cells #[.map (some rb)] 124)).alloc (.cells #[.int .i64 (C:Int)] 3)=w8 at *;rw[OA] at HBA;have Sm:=lh (uK.out.aD DB.out (by simp));have ab0:=lh (acE.out.tr DB.out);have UN:=lh (ky.out.tr DB.out);obtain⟨z0,z1,-,-,-⟩:=dh.out _ (aaz.out.tr DB.out);have Vs:=lh z0;have HX1:=lh z1;have Zg:=lh (show ∀ j∈[JL+1],w5.heap.size<=j/\w.heap.size<=j from fun j hj=>by
   have h1:=acE.out.size
   grind)
  have ajF:=lh (show rb<JL by rw[<-OA];exact uK.out.lt);clear z0 z1 OA pX B9;obtain⟨ib,Xm⟩:∃ n,JL+1=n:=⟨_,rfl⟩;have XE:=lh Xm;rw[Xm] at YL Zg ⊢;clear Xm;have HI8:=lh (show ib<w8.heap.size from lt_of_block YL.out);have HVC:=lh (show ∀ u c,f u=some c->0<=c/\c<=1000000 from fun u c h=>⟨YU.out.low u c h,by have:=DS.out u c h;have:=vH.out;omega⟩);have ad3:=lh (show ∀ v,f v≠none->∀ d∈p.ah,g.tail d=v->f (g.head d)≠none from fun v hv d hd ht=>by
   have h1:=(TL.out v).1 hv;have h2:=Plain.eR (g:=g) hd;rw[ht] at h2;have h3:=fP.out _ (nN.out.aO hd).2;exact (TL.out _).2 (h1.step h2 (by omega)))
  have UA:=lh (show ∀ d∈p.ah,0<=d/\d / 2<g.e.length/\aU (g.head d) from fun d hd=>by
   have h3:=fP.out _ (nN.out.aO hd).2;obtain⟨i,hi,e⟩:=Plain.bN (Plain.aw.1 hd);have:=Plain.bX s9.out hi
   grind [aU.mk])
  go_loopw [14,15,16] (fun c14 c15 _ wr=>∃ (n v:Nat) (M:List Int),n<=C/\c15=.int .i64 v/\aj wr w8.heap.size c14 M/\Hid (M++Plain.dg g p f n v=Plain.dg g p f C a/\f v=some (n:Int)/\M.length+n=C)/\wr.heap[ib]?=some (.cells #[.int .i64 (n:Int)] 3 (0,0))/\ag [ib] w8 wr) (fun _ _ _ wr=>match wr.cell? ⟨ib,0,none⟩ with | some u=>(intOf u).toNat | none=>0)
  case atStart =>
   obtain⟨an,han⟩:∃ n:Nat,a=n:=⟨a.toNat,by have:=fP.out a HA.out;omega⟩;exact⟨C,an,[],Qg _,by rw[han],eJ _ _,lh ⟨by grind,by rw[<-han];exact yc.out,by simp⟩,YL.out,ag.refl _ _⟩
  case round =>
   obtain⟨n,v,M,hn,rfl,aJ,hinv,eh,hc⟩:=hrel;have kF:=lh eh;have bt:=lh aJ;have HC:=lh hc;obtain⟨oo,oc,rfl⟩:=aJ.shape;have ci:=(cell_of_row _ _ 0 _ _ _ eh).trans (show _=some (Qa .i64 (n:Int)) from rfl);have fi:=bJ eh 0;have DR:=lh (ab0.out.trans hc (fun j hj=>Qc (Zg.out j hj).1));have mH:=lh (UN.out.trans hc (fun j hj=>Qc (Zg.out j hj).2));clear aJ eh hc;rcases n with _ | n
   ·have HE:=lh (show M=Plain.dg g p f C a by rw[<-hinv.out.1];simp[Plain.dg])
    go_wp2;refine bodyPost_ret (v:=.tuple #[.slice oo M.length oc,.bool true]) (by simp[results,Tryz.results126,go_sem]) rfl ?_;rw[S9.out];exact⟨_,rfl,by rw[Option.getD_some,<-HE.out];exact bt.out.base UN.out.size,EA.out,mH.out⟩
   obtain⟨kk,Nc,Fg,Yw,YF,hk5,hk6⟩:=Plain.vL YU.out (v:=(v:Int)) (n:=n) (by rw[hinv.out.2.1];congr 1) (ad3.out _ (by rw[hinv.out.2.1];simp));have yk:=UA.out _ YF;obtain⟨d,hd⟩:∃ d:Nat,Plain.kE g p f n v=d:=⟨(Plain.kE g p f n v).toNat,by omega⟩;have Lo:(kk:Int)<((Plain.kt g p v).length:Int):=by omega
   have abA:=lh (show M++[(d:Int)]++Plain.dg g p f n (g.head d)=Plain.dg g p f C a/\f (g.head d)=some (n:Int)/\(M++[(d:Int)]).length+n=C by
    refine⟨?_,by grind,by have:=hinv.out.2.2;simp;omega⟩;rw[<-hinv.out.1,Plain.dg,hd];simp)
   have HK1:=lh Nc;have HLL:=lh (show (Plain.kt g p v).length<=2*p.e.length by grind [Plain.kt,Plain.bL]);rw[hd] at Yw yk;have A5:=fP.out _ (nN.out.aO YF).2;rw[hd] at A5;obtain⟨x,hx⟩:∃ x:Nat,g.head d=x:=⟨(g.head d).toNat,by omega⟩;have HX:=lh hx;rw[hx] at abA;have sZ:d / 2<g.e.length:=by grind
   have hng:g.e.length<1000000:=by have:=iE.out.2.2.1;have:=iE.out.1;omega
   have hnC:n<1000000:=by have:=EJ.out;omega
   have EB:aU (v:Int):=by
    have h1:=(nN.out.aO YF).1;rw[hk5] at h1;have:=fP.out _ h1
    grind [aU.mk]
   have Ki:aU (d:Int):=by grind [aU.mk]
   have hLD:∀ q∈Plain.kt g p v,0<=q/\q / 2<g.e.length/\aU (g.head q):=fun q hq=>UA.out q (Qe.1 hq).1;have UE:=lh hLD;have wC:=lh (show M.length<4294967290 by have:=hinv.out.2.2;have:=EJ.out;omega);have cm:=HC.out.cell ((cell_of_row _ _ 0 _ _ _ HBA.out).trans (show _=some (Value.map (some rb)) from rfl)) (by have:=XE.out;simp;omega);have cg0:=HC.out.cell Vs.out (by have:=XE.out;have:=Se.out;simp;omega);have cg1:=HC.out.cell HX1.out (by have:=XE.out;have:=Se.out;simp;omega);have agR:=lh cm;have ajh:=lh cg0;have ajO:=lh cg1;have aky:=lh ci;have Ar:=lh (HG.out.fresh mH.out);have HMR:=lh (Sm.out.aD HC.out (by have:=uK.out.lt;have:=DB.out;have:=XE.out;have h9:=ajF.out;simp;omega));clear Nc YF hk5 hk6 yk hd hx A5 hLD
   go_wp2_with (at_lookup;refine ni rfl _ _ rfl Ia.out DR.out (by have:=oF.out;omega) rfl EB rfl ?_;intro vv r0;obtain⟨vo,vc,rfl⟩:=r0.shape;have R0:=lh r0;clear r0)
   have qN:=Fx n JL w.heap.size ib rb m eo cap g f (.slice vo (Plain.kt g p v).length vc) (Plain.kt g p v) wr UE.out (by have:=oF.out;have:=HLL.out;omega) hng hnC HVC.out (R0.out.ints.fresh DR.out) agR.out ajh.out ajO.out aky.out HMR.out Ar.out;rw[HK1.out] at qN;refine qN.mono ?_;rintro e w9 ⟨rfl,hc9⟩;have AN:=lh hc9;have VX:=lh (DR.out.tr hc9);have aa6:=lh (HC.out.tr hc9);have M':=lh (bt.out.aD hc9 (by simp));have Zf:=lh (show w8.heap.size<=w9.heap.size from aa6.out.size);have afY:=lh (hc9.hp kF.out);have nI:=wC.out;clear qN hc9 cm cg0 cg1 ci fi
   go_wp2_with (first
    | (at_lookup;refine ni rfl _ _ rfl Ia.out VX.out (by have:=oF.out;omega) rfl EB rfl ?_;intro vv r1;obtain⟨v1o,v1c,rfl⟩:=r1.shape;obtain⟨g1,e1,h1⟩:=r1.some (by omega);subst e1;have Yg:=VX.out.dp (h1 kk Fg);rw[Yw] at Yg;clear r1 h1)
    | (at_builtin;refine gA rfl _ _ rfl (B:=w8.heap.size) (v:=.slice oo _ oc) rfl rfl M'.out Ki Zf.out nI rfl ?_;intro v6 OL r6 c6 f6;have R6:=lh r6;have C6:=lh c6;clear r6 c6 f6))
   have zC:=lh (show ∀ j∈aE (Qb oo M.length oc),w8.heap.size<=j from fun j hj=>(M'.out.low j (by rw[<-M'.out.aE];exact hj)).1);have T3:=lh (VX.out.trans C6.out (fun j hj=>Qc (Qn ab0.out.size (zC.out j hj))));have adq:=lh ((mH.out.tr AN.out).trans C6.out (fun j hj=>Qc (Qn UN.out.size (zC.out j hj))));have MY:=lh (aa6.out.trans C6.out (fun j hj=>Qc (zC.out j hj)));have adG:=lh (C6.out.heap afY.out (fun hj=>by have:=zC.out _ hj;have:=HI8.out;omega));have dg0:=MY.out.cell Vs.out (by have:=XE.out;have:=Se.out;simp;omega);have dg1:=MY.out.cell HX1.out (by have:=XE.out;have:=Se.out;simp;omega);obtain⟨vv,fS,fQ⟩:=Ia.out.Dn (T3.out.drew) (by have:=oF.out;omega) EB;obtain⟨v1o,v1c,rfl⟩:=fQ.shape;obtain⟨g1,e1,h1⟩:=fQ.some (by omega);subst e1;have Yg:=T3.out.dp (h1 kk Fg);rw[Yw] at Yg;clear fQ h1;have aW:ag [] OL OL.drew:=(ag.refl [] OL).drew;refine ar (ag [] OL) [0,1,2,4,5,6,8] (Way.line [0,1,2,4,3,5,6,7,8] .done) (by kernel_rfl) (by kernel_rfl) ?_;simp only[Way.line]
   repeat (refine ai (v:=?_) rfl (by rfl) (by rfl) (fun _ _ _ h=>h) aW (fun w' aI=>?_) ?_;rotate_left;(focus (have gB:=aI.c dg0;have gQ:=aI.c dg1;have np:=aI.c Yg;clear aI;go_simp;try with_reducible rfl));simp only[Qd,Z1,Z2,Z3,Z4,Z5,Z6])
   refine au rfl (by rfl) (by rfl) (fun K hK=>?_);go_simp;refine hK.out _ _ (fun _=>aW) ?_;clear hK K
   try simp only[Qd,Z1,Z2,Z3,Z4,Z5,Z6]
   repeat (refine ai (v:=?_) rfl (by rfl) (by rfl) (fun _ _ _ h=>h) aW (fun w' aI=>?_) ?_;rotate_left;(focus (have gB:=aI.c dg0;have gQ:=aI.c dg1;have np:=aI.c Yg;clear aI;go_simp;try with_reducible rfl));simp only[Qd,Z1,Z2,Z3,Z4,Z5,Z6])
   refine au rfl (by rfl) (by rfl) (fun K hK=>?_);go_simp;refine (lX _ g d _ sZ (by omega) (HG.out.fresh (adq.out.tr aW))).mono ?_;rw[HX.out];rintro e G1 ⟨rfl,hc11⟩;have bF:ag [] OL G1:=aW.tr hc11;refine hK.out _ _ (fun _=>bF) ?_;clear hK K hc11 aW fS
   try simp only[Qd,Z1,Z2,Z3,Z4,Z5,Z6]
   repeat (refine ai (v:=?_) rfl (by rfl) (by rfl) (fun _ _ _ h=>h) bF (fun w' aI=>?_) ?_;rotate_left;(focus (have gB:=aI.c dg0;have gQ:=aI.c dg1;clear aI;go_simp;try with_reducible rfl));simp only[Qd,Z1,Z2,Z3,Z4,Z5,Z6])
   refine aC ?_;have Ly:=lh bF;have eh:=bF.hp adG.out;have ci:=(cell_of_row _ _ 0 _ _ _ eh).trans (show _=some (Qa .i64 ((n+1:Nat):Int)) from rfl);have fi:=bJ eh 0;have TB:=lh eh;have R11:=lh (R6.out.aD bF (by simp));have ain:=lh (show ∀ j∈aE v6,j≠ib from fun j hj e=>by have h1:=(R6.out.low j (by rw[<-R6.out.aE];exact hj)).1;have:=HI8.out;omega);clear eh bF dg0 dg1 Yg;go_wp2
   go_roundw
   case rel =>
    have aZ:ag [ib] G1 (G1.setCell ⟨ib,0,none⟩ (.int .i64 (n:Int))):=by grind [ag.refl,ag.setCell]
    refine⟨n,x,M++[(d:Int)],by omega,rfl,R11.out.aD aZ (fun j hj e=>ain.out j (by rw[R6.out.aE];exact hj) (by grind)),abA,?_,((MY.out.tr Ly.out).trans aZ (fun j hj=>Qm hj))⟩;exact heap_setCell_same TB.out 0 _
   case measure =>
    have e1:=(cell_of_row _ _ 0 _ _ _ kF.out).trans (show _=some (Qa .i64 ((n+1:Nat):Int)) from rfl);have e2:=(cell_of_row _ _ 0 _ _ _ (heap_setCell_same TB.out 0 (.int .i64 (n:Int)))).trans (show _=some (Qa .i64 (n:Int)) from rfl);rw[e1,e2];simp[intOf]
namespace Plain
def eY (p:Pt) (x:Int):Pt:=⟨p.v,p.e.filter fun e=>e != x⟩
end Plain
set_option maxRecDepth 100000 in
set_option maxHeartbeats 2000000 in
theorem M5 (vp:Value) (p:Plain.Pt) (x:Int) (w:World) (sM:p.v.length<1000000) (lR:p.e.length<1000000) (hp:fL w vp p) :
  Calls Tryz.prog 22 #[vp,.int .i64 x] w fun e w'=>∃ v1 v2,e=.returned (.agg #[v1,v2])/\fL w' (.agg #[v1,v2]) (Plain.eY p x)/\ag [] w w':=by
 obtain⟨v1,v2,rfl,hv,he⟩:=hp;have HV:=lh hv;have HE:=lh he;obtain⟨ao,ac,rfl,-,-,-⟩:=hv;obtain⟨bo,bc,rfl,LF,-,-⟩:=he;have Uy:=lh LF;have iQ:=lh (show ag [] w (((w.alloc (.cells #[.slice ao p.v.length ac,.slice bo p.e.length bc] 27)).alloc (.cells #[.slice none 0 0,.slice none 0 0] 27)).alloc (.cells #[.slice none 0 0,.slice none 0 0] 27)) from (show ag [] w (((w.alloc (.cells #[.slice ao p.v.length ac,.slice bo p.e.length bc] 27)).alloc (.cells #[.slice none 0 0,.slice none 0 0] 27)).alloc (.cells #[.slice none 0 0,.slice none 0 0] 27)) from ((((ag.refl [] w).alloc _).alloc _).alloc _)));have dk:=heap_alloc_new w (.cells #[.slice ao p.v.length ac,.slice bo p.e.length bc] 27);replace dk:=(show ag [] (w.alloc (.cells #[.slice ao p.v.length ac,.slice bo p.e.length bc] 27)) (((w.alloc (.cells #[.slice ao p.v.length ac,.slice bo p.e.length bc] 27)).alloc (.cells #[.slice none 0 0,.slice none 0 0] 27)).alloc (.cells #[.slice none 0 0,.slice none 0 0] 27)) from (((ag.refl [] (w.alloc (.cells #[.slice ao p.v.length ac,.slice bo p.e.length bc] 27))).alloc _).alloc _)).heap dk (by simp);have gX:=heap_alloc_new (w.alloc (.cells #[.slice ao p.v.length ac,.slice bo p.e.length bc] 27)) (.cells #[.slice none 0 0,.slice none 0 0] 27);rw[show (w.alloc (.cells #[.slice ao p.v.length ac,.slice bo p.e.length bc] 27)).heap.size=w.heap.size+1 by simp] at gX;replace gX:=(show ag [] ((w.alloc (.cells #[.slice ao p.v.length ac,.slice bo p.e.length bc] 27)).alloc (.cells #[.slice none 0 0,.slice none 0 0] 27)) (((w.alloc (.cells #[.slice ao p.v.length ac,.slice bo p.e.length bc] 27)).alloc (.cells #[.slice none 0 0,.slice none 0 0] 27)).alloc (.cells #[.slice none 0 0,.slice none 0 0] 27)) from ((ag.refl [] ((w.alloc (.cells #[.slice ao p.v.length ac,.slice bo p.e.length bc] 27)).alloc (.cells #[.slice none 0 0,.slice none 0 0] 27))).alloc _)).heap gX (by simp);have WR:=heap_alloc_new ((w.alloc (.cells #[.slice ao p.v.length ac,.slice bo p.e.length bc] 27)).alloc (.cells #[.slice none 0 0,.slice none 0 0] 27)) (.cells #[.slice none 0 0,.slice none 0 0] 27);rw[show ((w.alloc (.cells #[.slice ao p.v.length ac,.slice bo p.e.length bc] 27)).alloc (.cells #[.slice none 0 0,.slice none 0 0] 27)).heap.size=w.heap.size+2 by simp] at WR;have HX:=lh (fun (w2:World) (eh:ag [] (((w.alloc (.cells #[.slice ao p.v.length ac,.slice bo p.e.length bc] 27)).alloc (.cells #[.slice none 0 0,.slice none 0 0] 27)).alloc (.cells #[.slice none 0 0,.slice none 0 0] 27)) w2)=>(⟨eh.c ((cell_of_row _ _ 0 _ _ _ dk).trans rfl),eh.c ((cell_of_row _ _ 1 _ _ _ dk).trans rfl),eh.heap gX (by simp),eh.heap WR (by simp),by have hz:=eh.size;simpa using hz⟩:w2.cell? ⟨w.heap.size,0,none⟩=some (.slice ao p.v.length ac)/\w2.cell? ⟨w.heap.size,1,none⟩=some (.slice bo p.e.length bc)/\w2.heap[w.heap.size+1]?=some (.cells #[.slice none 0 0,.slice none 0 0] 27 (0,0))/\w2.heap[w.heap.size+2]?=some (.cells #[.slice none 0 0,.slice none 0 0] 27 (0,0))/\w.heap.size+3<=w2.heap.size));clear dk gX WR;have Gc:=lh (show (((w.alloc (.cells #[.slice ao p.v.length ac,.slice bo p.e.length bc] 27)).alloc (.cells #[.slice none 0 0,.slice none 0 0] 27)).alloc (.cells #[.slice none 0 0,.slice none 0 0] 27)).heap.size=w.heap.size+3 by simp);clear LF;obtain⟨x0,x1,r4,r5,dj⟩:=HX.out _ (ag.refl _ _);have q0:=(cell_of_row _ _ 0 _ _ _ r5).trans (show _=some (Qb none 0 0) from rfl);have q1:=(cell_of_row _ _ 1 _ _ _ r5).trans (show _=some (Qb none 0 0) from rfl);have uk:=lh r5;have AG:=lh r4;clear r4 r5;have HEV:=lh (HV.out.fresh iQ.out)
 go_enter Tryz.func22,Tryz.ntmps22
 have Xl:aj (((w.alloc (.cells #[.slice ao p.v.length ac,.slice bo p.e.length bc] 27)).alloc (.cells #[.slice none 0 0,.slice none 0 0] 27)).alloc (.cells #[.slice none 0 0,.slice none 0 0] 27)) (w.heap.size+3) (.slice none 0 0) []:=eJ _ _;have HVV:=lh Xl;have pj:=lh (show (((w.alloc (.cells #[.slice ao p.v.length ac,.slice bo p.e.length bc] 27)).alloc (.cells #[.slice none 0 0,.slice none 0 0] 27)).alloc (.cells #[.slice none 0 0,.slice none 0 0] 27)).heap.size=w.heap.size+3 by simp);have atX:p.v.length<4294967296:=by omega
 clear Xl
 go_wp2_with (at_builtin;refine bT rfl _ _ rfl (B:=w.heap.size+3) rfl rfl HVV.out HEV.out (Nat.le_of_eq pj.out.symm) (by simp;omega) ?_;intro v4 w4 r4 c4 f4;rw[List.nil_append] at r4;obtain⟨vo,vc,rfl⟩:=r4.shape;have c4:ag [] _ w4:=c4;have s0:=c4.c q0;have s1:=c4.c q1;have e1:=c4.c x1;have g0:=bJ (c4.heap uk.out (by simp)) 0;have R4:=lh r4;have C4:=lh (iQ.out.t c4);have H54:=lh (c4.heap uk.out (by simp));have HXW:=lh (fun wx (h:ag [w.heap.size+2] w4 wx)=>Ql (h.c (c4.c x0)) (Ql (h.c (c4.c x1)) (h.heap (c4.heap AG.out (by simp)) (by simp))));clear r4 c4 f4)
 obtain⟨pb,ph⟩:∃ n,w.heap.size+2=n:=⟨_,rfl⟩;have adx:w.heap.size+1+1=pb:=by omega
 rw[ph] at H54 HXW;rw[adx];have te:=lh ph;have aZ:ag [pb] w4 (w4.setCell ⟨pb,0,none⟩ (.slice vo p.v.length vc)):=(ag.refl _ w4).setCell (Qm (by simp)) _;have ga:=lh aZ;have H55:=lh (heap_setCell_same H54.out 0 (.slice vo p.v.length vc));have E7:∀ (wx:World) (v:Value) (q:List Int) (B:Nat),aj wx B v q->(∃ cs,wx.heap[pb]?=some (.cells cs 27 (0,0)))->pb ∉ v.ownBlock.toList:=fun _ _ _ _ h ⟨cs0,h0⟩ q=>by
  obtain⟨cs,r,hh⟩:=bR h _ (by rw[h.aE];exact q)
  grind
 have Lh:=lh E7;have HV5:=lh (R4.out.aD aZ (fun b hb q=>E7 _ _ _ _ R4.out ⟨_,H54.out⟩ (by grind)));clear aZ E7 s0 s1 e1 g0 q0 q1 x0 x1 adx ph;generalize w4.setCell ⟨pb,0,none⟩ (.slice vo p.v.length vc)=w5 at *
 go_loopw [7,17] (fun _ c wr=>∃ k:Nat,k<=p.e.length/\c=.int .i64 k/\∃ uo uc,wr.heap[pb]?=some (.cells #[.slice vo p.v.length vc,.slice uo ((p.e.take k).filter fun e=>e != x).length uc] 27 (0,0))/\aj wr w5.heap.size (.slice uo ((p.e.take k).filter fun e=>e != x).length uc) ((p.e.take k).filter fun e=>e != x)/\ag [pb] w5 wr) (fun _ c _=>p.e.length - (intOf c).toNat)
 case atStart=>exact⟨0,Qf _,rfl,none,0,H55.out,eJ _ _,ag.refl _ _⟩
 case round =>
  obtain⟨k,hk,rfl,uo,uc,ho,hr,hc⟩:=hrel;have HO:=lh ho;have HR:=lh hr;have HC:=lh hc;have J':=lh (ga.out.trans hc (fun j hj=>Qm hj));have mH:=lh (C4.out.trans J'.out (fun j hj=>Qc (by rw[Qi] at hj;have:=te.out;omega)));have o0:=(cell_of_row _ _ 0 _ _ _ ho).trans (show _=some (Qb vo p.v.length vc) from rfl);have o1:=(cell_of_row _ _ 1 _ _ _ ho).trans (show _=some (Qb uo ((p.e.take k).filter fun e=>e != x).length uc) from rfl);obtain⟨x0,x1,r4⟩:=HXW.out wr J'.out;have af8:=lh r4;clear ho hr hc r4;by_cases aL:k<p.e.length
  ·obtain⟨rb,iR,rfl,rc⟩:=al.cellAt HE.out aL
   have cz:=mH.out.c rc;have nL:=lh (show (p.e.take (k+1)).filter (fun e=>e != x)=(p.e.take k).filter (fun e=>e != x)++(if (p.e.getD k 0 != x)=true then [p.e.getD k 0] else []) from Plain.il _ aL);have M0:aU (p.e.getD k 0):=Uy.out _ (Plain.aQ aL);have wC:=lh (show ((p.e.take k).filter fun e=>e != x).length<=1000000 by grind);obtain⟨M,hM⟩:∃ M,(p.e.take k).filter (fun e=>e != x)=M:=⟨_,rfl⟩;obtain⟨y,hy⟩:∃ y,p.e.getD k 0=y:=⟨_,rfl⟩;rw[hM] at HO HR nL wC o1;rw[hy] at nL M0 cz;have nI:M.length<4294967290:=by grind
   have wZ:=lh HC.out.size;clear rc hM hy;cases hb:(y != x) with
   | true =>
    have JU:=lh (show (p.e.take (k+1)).filter (fun e=>e != x)=M++[y] by rw[nL.out,hb];rfl)
    go_wp2_with (at_builtin;refine gA rfl _ _ rfl (B:=w5.heap.size) (v:=.slice uo M.length uc) rfl rfl HR.out M0 wZ.out nI rfl ?_;intro v6 w6 r6 c6 f6;obtain⟨o6,c66,rfl⟩:=r6.shape;have Pz:pb ∉ aE (Qb uo M.length uc):=Lh.out _ _ _ _ HR.out ⟨_,HO.out⟩;have t1:=c6.cell o1 Pz;have t0:=c6.cell o0 Pz;have t2:=bJ (c6.heap HO.out Pz) 1;have H66:=lh (c6.heap HO.out Pz);have R6:=lh r6;have C6:=lh c6;clear r6 c6 f6 Pz)
    go_roundw
    case rel =>
     have hl:(M++[y]).length=M.length+1:=by simp
     have h6:=R6.out;rw[hl] at h6;have aZ:ag [pb] w6 (w6.setCell ⟨pb,1,none⟩ (.slice o6 (M.length+1) c66)):=by grind [ag.refl,ag.setCell]
     refine⟨k+1,by omega,by go_num,o6,c66,?_,?_,?_⟩
     ·rw[JU.out,hl];exact heap_setCell_same H66.out 1 _
     ·rw[JU.out,hl];exact h6.aD aZ (fun b hb q=>Lh.out _ _ _ _ h6 ⟨_,H66.out⟩ ((Qi.1 q) ▸ hb))
     exact (HC.out.trans C6.out (fun j hj=>Qc ((HR.out.low j (by rw[<-HR.out.aE];exact hj)).1))).trans aZ (fun j hj=>Qm hj)
    case measure=>simp[intOf];omega
   | false =>
    have JU:=lh (show (p.e.take (k+1)).filter (fun e=>e != x)=M by rw[nL.out,hb];simp);go_wp2
    go_roundw
    case rel=>exact⟨k+1,by omega,by go_num,uo,uc,by rw[JU.out];exact HO.out,by rw[JU.out];exact HR.out,HC.out⟩
    case measure=>simp[intOf];omega
  have e:k=p.e.length:=by omega
  subst e;rw[List.take_length] at HO HR o1;have r4:=af8.out;have f0:=bJ r4 0;have f1:=bJ r4 1;obtain⟨tb,PV⟩:∃ n,w.heap.size+1=n:=⟨_,rfl⟩;have HTB:=lh PV;rw[PV] at r4 f0 f1 ⊢;obtain⟨M,hM⟩:∃ M,p.e.filter (fun e=>e != x)=M:=⟨_,rfl⟩;have HM:=lh hM;rw[hM] at HO HR o1;have r0:=(cell_of_row _ _ 0 _ _ _ r4).trans (show _=some (Qb none 0 0) from rfl);have r1:=(cell_of_row _ _ 1 _ _ _ r4).trans (show _=some (Qb none 0 0) from rfl);have aZ:ag [tb] wr ((wr.setCell ⟨tb,0,none⟩ (.slice vo p.v.length vc)).setCell ⟨tb,1,none⟩ (.slice uo M.length uc)):=by grind [ag.refl,ag.setCell]
  have jw:=heap_setCell_same (heap_setCell_same r4 0 (.slice vo p.v.length vc)) 1 (.slice uo M.length uc);have ZS:=lh ((cell_of_row _ _ 0 _ _ _ jw).trans (show _=some (Qb vo p.v.length vc) from rfl));have UM:=lh ((cell_of_row _ _ 1 _ _ _ jw).trans (show _=some (Qb uo M.length uc) from rfl));have hkt:∀ (v:Value) (q:List Int) (B:Nat),aj wr B v q->∀ b∈v.ownBlock.toList,b ∉ [tb]:=fun v q B h b hb e=>by
   obtain⟨cs,r,hh⟩:=bR h b (by rw[h.aE];exact hb)
   grind
  have Kd:=HV5.out.aD HC.out (fun b hb q=>Lh.out _ _ _ _ HV5.out ⟨_,H55.out⟩ (by grind));have Li:=lh ((Kd.aD aZ (hkt _ _ _ Kd)).ints);have s9:=lh ((HR.out.aD aZ (hkt _ _ _ HR.out)).ints);have qh:=lh (mH.out.trans aZ (fun j hj=>Qc (by grind)));have bh:¬ pb=tb:=by have:=te.out;omega
  have A6:¬ tb=pb:=by grind
  clear aZ jw hkt Kd PV hM x0 x1 aL hk;go_wp2;refine bodyPost_ret (v:=.agg #[.slice vo p.v.length vc,.slice uo M.length uc]) (by have h0:=ZS.out;have h1:=UM.out;simp[results,Tryz.results22,go_sem,h0,h1]) rfl ?_;exact⟨_,_,rfl,⟨_,_,rfl,Li.out,by show al _ _ (p.e.filter fun e=>e != x);rw[HM.out];exact s9.out⟩,qh.out⟩
set_option maxRecDepth 100000 in
set_option maxHeartbeats 1000000 in
theorem L7 (n:Nat) (w:World) (hn:n<100000000) :
  Calls Tryz.prog 176 #[.slice none 0 0,.int .i64 n] w fun e w'=>∃ v',e=.returned v'/\aj w' w.heap.size v' []/\ag [] w w':=by
 obtain⟨i0,hi,y9,jq,nO⟩:=info_parts bW.hi
 go_enter Tryz.func176,Tryz.ntmps176
 rcases n with _ | n
 ·go_wp2
  go_ret;exact⟨_,rfl,eJ _ _,ag.refl _ _⟩
 have hr:=Go.Lib.run_append_nil_zeros (P:=Tryz.prog) w 25 3 25 3 i0 (.int .i64 0) .i64 .i64 bW.ht Tryz.underlying3 hi y9 (n+1) (by omega) (by omega) (by omega) (by grind);have hng:((n+1:Nat):Int) > 0:=by omega
 have Ys:¬ ((n+1:Nat):Int)<0:=by omega
 generalize hN:n+1=N at *
 go_wp2_with (at_builtin;refine Go.Lib.wpList_append_run _ rfl _ _ _ _ rfl _ _ rfl rfl _ _ hr ?_)
 have yk:=grownCap_ge w N 0 3;have hle:=grownCap_le_maxLen w N 0 3 (by unfold maxLen;omega);have dj:(Builtin.zeroCells #[Qa .i64 0] N++Builtin.zeroCells #[Qa .i64 0] (grownCap w N 0 3 - N)).size=grownCap w N 0 3*1:=by
  simp only[Array.size_append,size_zeroCells]
  grind
 generalize Builtin.zeroCells #[Qa .i64 0] N++Builtin.zeroCells #[Qa .i64 0] (grownCap w N 0 3 - N)=Z at *;generalize grownCap w N 0 3=G at *;clear hr;have hh:=heap_alloc_new w (.cells Z 3);go_ret;refine⟨_,rfl,⟨⟨by simp[ints],Qc ⟨w.heap.size,G,Z,rfl,Qg _,hh,by simp,hle,dj,by simp[ints]⟩⟩,by simp,by simp⟩,((ag.refl [] w).alloc _).drew⟩
def qy (Ls:List (List Int)) (k:Nat):List Int:=(Ls.take k).flatten
theorem yQ {Ls:List (List Int)} {k:Nat} (hk:k<Ls.length):qy Ls (k+1)=qy Ls k++Ls.getD k []:=by
 unfold qy;rw[List.take_succ_eq_append_getElem hk,Qh]
 grind
theorem Ta (Ls:List (List Int)) (k:Nat):(qy Ls k).length<=Ls.flatten.length:=by
 unfold qy;have h:(Ls.take k).flatten++(Ls.drop k).flatten=Ls.flatten:=by rw[<-Qh,List.take_append_drop]
 grind
set_option maxRecDepth 100000 in
set_option maxHeartbeats 2000000 in
theorem ur (bb n c:Nat) (vs:Nat->Value) (Ls:List (List Int)) (w:World) (hn:Ls.length=n) (BX:n<1000000) (hl:Ls.flatten.length<100000000) (hc:∀ k,k<n->w.cell? ⟨bb,k,none⟩=some (vs k)/\al w (vs k) (Ls.getD k [])) :
  Calls Tryz.prog 127 #[.slice (some ⟨bb,0,none⟩) n c] w fun e w'=>∃ v',e=.returned v'/\aj w' w.heap.size v' Ls.flatten/\ag [] w w':=by
 have HC:=lh hc;have vy:=lh (Ta Ls);clear hc
 go_enter Tryz.func127,Tryz.ntmps127
 go_wp2_with fail
 go_loopw [3,5,11] (fun c3 _ c wr=>∃ k:Nat,k<=n/\c=.int .i64 k/\c3=.int .i64 ((qy Ls k).length:Nat)/\wr=w) (fun _ _ c _=>n - (intOf c).toNat)
 case atStart=>exact⟨0,Qf _,rfl,rfl,rfl⟩
 case round =>
  obtain⟨k,hk,rfl,rfl,rfl⟩:=hrel;by_cases aL:k<n
  ·obtain⟨aK,hints⟩:=HC.out k aL
   obtain⟨uo,uc,eu,-,-,-⟩:=hints;rw[eu] at aK;have sS:=lh (show (qy Ls (k+1)).length=(qy Ls k).length+(Ls.getD k []).length by rw[yQ (by omega),Qj]);have h1:=vy.out k;have h2:=vy.out (k+1);rw[sS.out] at h2;have EM:¬ (((qy Ls k).length:Int)+((Ls.getD k []).length:Int)<0):=by omega
   obtain⟨a,ha⟩:∃ a,(qy Ls k).length=a:=⟨_,rfl⟩;obtain⟨b,hb⟩:∃ b,(Ls.getD k []).length=b:=⟨_,rfl⟩;rw[ha] at sS h1 h2 EM ⊢;rw[hb] at sS h2 EM aK;clear ha hb eu;go_wp2
   go_roundw
   case rel=>exact⟨k+1,by omega,by go_num,by rw[sS.out];go_num,trivial⟩
   case measure=>simp[intOf];omega
  have e:k=n:=by omega
  subst e;have G9:=lh (show qy Ls k=Ls.flatten by unfold qy;rw[List.take_of_length_le (by omega)]);rw[G9.out];obtain⟨T,hT⟩:∃ T,Ls.flatten.length=T:=⟨_,rfl⟩;have HT:=lh hT;rw[hT] at hl ⊢;clear hT
  go_wp2_with fail
  refine (L7 T _ hl).mono ?_;rintro e w2 ⟨v2,rfl,fh,bA⟩;obtain⟨o2,c2,rfl⟩:=fh.shape;obtain⟨B,hB⟩:∃ B,wr.heap.size=B:=⟨_,rfl⟩;have HB:=lh hB;rw[hB] at fh;have yH:=lh fh;have cB:=lh bA;clear fh bA aL hk hB
  go_wp2_with fail
  go_loopw [6,8,27] (fun c6 _ c wx=>∃ i:Nat,i<=k/\c=.int .i64 i/\aj wx B c6 (qy Ls i)/\ag [] wr wx) (fun _ _ c _=>k - (intOf c).toNat)
  case atStart=>exact⟨0,Qf _,rfl,yH.out,cB.out⟩
  case round =>
   obtain⟨i,hi,rfl,hr,qU⟩:=hrel;have HR:=lh hr;have kV:=lh qU;obtain⟨oo,oc,rfl⟩:=hr.shape;clear hr qU;by_cases VJ:i<k
   ·obtain⟨aK,hints⟩:=HC.out i VJ
    have ku:=lh (hints.fresh kV.out);obtain⟨uo,uc,eu,-,-,-⟩:=hints;have sS:=lh (yQ (Ls:=Ls) (k:=i) (by omega));have h2:=vy.out (i+1);rw[sS.out,HT.out,Qj] at h2;have ck:=kV.out.c aK;rw[eu] at ck;have hIN:=ku.out;rw[eu] at hIN;have Ag:=lh hIN;obtain⟨M,hM⟩:∃ M,qy Ls i=M:=⟨_,rfl⟩;obtain⟨L,hL⟩:∃ L,Ls.getD i []=L:=⟨_,rfl⟩;rw[hM] at HR sS h2 ⊢;rw[hL] at sS h2 ck Ag;have pj:=lh (by have:=kV.out.size;rwa[HB.out] at this);have Vz:M.length+L.length<4294967296:=by omega
    clear aK eu hIN hM hL h2
    go_wp2_with (at_builtin;refine bT rfl _ _ rfl (B:=B) (v:=.slice oo _ oc) rfl rfl HR.out Ag.out pj.out Vz ?_;intro v6 w6 r6 c6 f6;have R6:=lh r6;have C6:=lh c6;clear r6 c6 f6)
    go_roundw
    case rel=>exact⟨i+1,by omega,by go_num,by rw[sS.out];exact R6.out,kV.out.trans C6.out (fun j hj=>Qc (by rw[HB.out];exact (HR.out.low j (by rw[<-HR.out.aE];exact hj)).1))⟩
    case measure=>simp[intOf];omega
   have e:i=k:=by omega
   subst e;rw[G9.out] at HR ⊢;clear hi VJ;go_wp2;go_ret;exact⟨_,rfl,by rw[HB.out];exact HR.out,kV.out⟩
theorem jP (u v:Value) (l m:List Int) (w:World) (h1:al w u l) (h2:al w v m) (hl:l.length+m.length<1000000) :
  Calls Tryz.prog 127 #[.slice (some ⟨w.heap.size,0,none⟩) 2 2] (w.alloc (.cells #[u,v] 25)) fun e w'=>∃ v',e=.returned v'/\aj w' w.heap.size v' (l++m)/\ag [] w w':=by
 have hc:=(ag.refl [] w).alloc (.cells #[u,v] 25);have hb:=heap_alloc_new w (.cells #[u,v] 25);refine (ur w.heap.size 2 2 (fun k=>if k=0 then u else v) [l,m] _ rfl (by omega) (by simp;omega) (fun k hk=>by
  rcases (show k=0\/k=1 by omega) with rfl | rfl
  ·exact⟨(cell_of_row _ _ 0 _ _ _ hb).trans rfl,h1.fresh hc⟩
  exact⟨(cell_of_row _ _ 1 _ _ _ hb).trans rfl,h2.fresh hc⟩)).mono ?_
 rintro e w' ⟨v',rfl,hr,G5⟩;exact⟨v',rfl,by simpa using hr.base hc.size,hc.tr G5⟩
theorem M1 (v:Value) (l:List Int) (B:Nat) (w:World) (hn:l.length<1000000000) (h:aj w B v l) :
  Calls Tryz.prog 202 #[v] w fun e w'=>e=.returned (.tuple #[])/\aj w' B v l.reverse/\ag v.ownBlock.toList w w':=by
 obtain⟨ao,c,rfl⟩:=h.shape;by_cases h0:l=[]
 ·subst h0
  refine (Tryz.slices_Reverse_int_empty ao c w).mono ?_
  grind [ag.refl]
 obtain⟨g,cap,e⟩:=cD h.1 (List.length_pos_iff.2 h0);cases e;have hl:(ints l).length=l.length:=by simp[ints]
 have bH:=h.1;rw[<-hl] at bH;have hH:Go.Sort.Holds (Qa .i64) w g 0 l.toArray:=je bH (by simp[ints]);refine (Tryz.slices_Reverse_int g 0 _ l w hH (by omega)).mono ?_;rintro e w' ⟨rfl,n,rfl⟩;have hs:l.reverse.length=l.length:=List.length_reverse;have he:Go.Sort.putRow (Qa .i64) (Go.Sort.ahead w n) g 0 l.reverse.toArray=sortWorld (Qa .i64) w g 0 n l.reverse.toArray #[]:=by
  unfold sortWorld;simp[Go.Sort.grow];rfl
 rw[he];have wH:=j6 (enc:=Qa .i64) (n:=n) (os:=#[]) (d:=l.reverse.toArray) bH (by simp[hl]);refine⟨rfl,⟨?_,fun x hx=>h.2.1 x (List.mem_reverse.1 hx),by grind⟩,?_⟩
 ·rw[hl] at wH
  rw[hs];exact wH
 exact lp (Qa .i64) w g n #[] _
namespace Plain
theorem xE.inv {g:Gr} {aP:ij} {a u:Int} {l:List Int} (h:xE g aP a u l):(l=[]/\u=a)\/∃ d m,l=m++[d]/\u≠a/\aP u=some d/\0<=d/\xE g aP a (g.tail d) m:=by
 cases h with
 | here=>exact Qm ⟨rfl,rfl⟩
 | step h1 h2 h3 h4 h5 h6=>exact Qc ⟨_,_,rfl,h1,h2,h3,h5⟩
end Plain
set_option maxRecDepth 100000 in
set_option maxHeartbeats 2000000 in
theorem D0 (sb N m mb:Nat) (vE:Value) (g:Plain.Gr) (aP:Plain.ij) (a:Int) (v:Nat) (l:List Int) (w:World) (hG:mM w sb g vE N) (hM:bK w mb m aP) (hv:v<1000000) (hb:aP a=some (-1)) (ht:Plain.xE g aP a v l) (hl:l.length<1000000) (hd:∀ d∈l,0<=d/\d / 2<g.e.length) :
  Calls Tryz.prog 180 #[.pointer (some ⟨sb,0,none⟩),.map (some mb),.int .i64 v] w fun e w'=>∃ v',e=.returned v'/\aj w' w.heap.size v' l/\ag [] w w':=by
 have HG:=lh hG;have HM:=lh hM;have HB:=lh hb;have HD:=lh hd;have HT:=lh ht;have fZ:=lh hG.small;have EB:aU (v:Int):=aU.mk (by omega) (by omega);have HGV:=lh (show (aP (v:Int)).getD 0=(aP (v:Int)).getD 0 from rfl);obtain⟨d0,q8⟩:∃ d0,(aP (v:Int)).getD 0=d0:=⟨_,rfl⟩;have US:=lh q8;rw[q8] at HGV;clear hG hM hb hd ht q8
 go_enter Tryz.func180,Tryz.ntmps180
 go_wp2_with (at_lookup;refine iZ _ rfl _ _ rfl HM.out rfl EB rfl US.out ?_)
 go_loopg [7,8] (l.length+1) (fun fuel c7 c8 wr=>∃ (u z:Int) (l1 M:List Int),c8=.int .i64 z/\aj wr w.heap.size c7 M/\Hid (z=(aP u).getD 0/\Plain.xE g aP a u l1/\l=l1++M.reverse)/\l1.length<fuel/\fuel<=l.length+1/\ag [] w wr)
 case atStart=>exact⟨v,d0,l,[],rfl,eJ _ _,lh ⟨US.out.symm,HT.out,by simp⟩,by omega,Qg _,ag.refl _ _⟩
 case round =>
  obtain⟨u,z,l1,M,rfl,aJ,hinv,hlf,wF,hc⟩:=hrel;have bt:=lh aJ;have HC:=lh hc;obtain⟨oo,oc,rfl⟩:=aJ.shape;have wC:=lh (show l1.length+M.length=l.length by have:=congrArg List.length hinv.out.2.2;simp at this;omega);clear aJ hc;rcases hinv.out.2.1.inv with ⟨rfl,rfl⟩ | ⟨d,l2,rfl,Wn,hcu,q8,GG⟩
  ·have hz:z = -1:=by rw[hinv.out.1,HB.out];rfl
   subst hz;have HE:=lh (show l=M.reverse by have:=hinv.out.2.2;simpa using this);have nI:M.length<1000000000:=by have:=wC.out;simp at this;omega
   clear hlf
   go_wp2_with fail
   refine (M1 _ M w.heap.size _ nI bt.out).mono ?_;rintro e w2 ⟨rfl,fh,bA⟩;have yH:=lh (show aj w2 w.heap.size (.slice oo M.length oc) l by rw[HE.out];exact fh);have cB:=lh (HC.out.trans bA (fun j hj=>Qc (bt.out.low j hj).1));clear fh bA;go_wp2;go_ret;exact⟨_,rfl,yH.out,cB.out⟩
  have hz:z=d:=by rw[hinv.out.1,hcu];rfl
  subst hz;have xp:=HD.out z (by rw[hinv.out.2.2];simp);obtain⟨n,y,hn,iI,hy,hyN,hn4⟩:=HG.out.Bc xp.1 xp.2;subst hn;have ku:=lh (show Plain.xE g aP a (y:Int) l2/\l=l2++(M++[(n:Int)]).reverse from⟨by grind,by rw[hinv.out.2.2];simp⟩);have HY:=lh hy;have hng:(n:Int) ≥ 0:=by omega
  have ai7:aU (n:Int):=by grind [aU.mk]
  have aiZ:aU (y:Int):=aU.mk (by omega) (by have:=fZ.out;omega);obtain⟨z1,jq⟩:∃ z1,(aP (y:Int)).getD 0=z1:=⟨_,rfl⟩;have WT:=lh jq;have nI:M.length<4294967290:=by have:=wC.out;simp at this;omega
  have pj:=lh HC.out.size;have ah4:l2.length<gk - 1:=by grind
  have ED:gk - 1<=l.length+1:=by omega
  have hgp:0<gk:=by omega
  clear jq hy hcu Wn GG q8 hinv xp hlf wF
  go_wp2_with (at_builtin;refine gA rfl _ _ rfl (B:=w.heap.size) (v:=.slice oo _ oc) rfl rfl bt.out ai7 pj.out nI rfl ?_;intro v6 w6 r6 c6 f6;have R6:=lh r6;have C6:=lh (HC.out.trans c6 (fun j hj=>Qc (bt.out.low j (by rw[<-bt.out.aE];exact hj)).1));clear r6 c6 f6;have q0:=C6.out.c HG.out.c0;have q1:=C6.out.c HG.out.c1)
  refine (cO _ g n _ iI (by have:=fZ.out;omega) (HG.out.fresh C6.out).gr).mono ?_;rintro _ w7 ⟨rfl,hc7⟩;rw[HY.out];have pX:=lh (C6.out.t hc7);have OT:=lh (R6.out.aD hc7 (by simp));clear hc7 q0 q1
  go_wp2_with (at_lookup;refine iZ _ rfl _ _ rfl (HM.out.aD pX.out (by simp)) rfl aiZ rfl WT.out ?_)
  go_roundg (gk - 1)
  case measure=>omega
  case rel=>exact⟨y,z1,l2,M++[(n:Int)],rfl,OT.out,lh ⟨WT.out.symm,ku.out.1,ku.out.2⟩,ah4,ED,pX.out⟩
end Go.Proofs.YtoiflofhcmjpoaaGreat
