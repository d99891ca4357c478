/- The mirror of a drawing is a drawing; mirrored twice it is as it was. No program here. -/
import Derived.Test.YtoiflofhcmjpoaaGreatD9Ref09
open List renaming mem_cons_of_mem→Qa,mem_singleton→Qb,eq_nil_or_concat→Qd,getD→Qe,cons_append→Qf,mergeSort_perm→Qg,nodup_append→Qh,nodup_cons→Qi,mem_append→Qj,perm_append_comm→Qk,length_pos_iff→Ql,mem_cons→Qm,reverse_perm→Qn,mem_reverse→Qo,mem_flatten→Qp,range→Qr
open Go.Value renaming int→Qc
open Or renaming inl→Qq,inr→Qs
namespace Go.Proofs.YtoiflofhcmjpoaaGreat.Plain
theorem DW {l:List Int} (hn:l.Nodup) {d:Int} (hd:d∈l):ahead l.reverse (ahead l d)=d:=by
 obtain⟨a,c,rfl,hda⟩:=mW hd;rw[dN hda];rcases Qd a with rfl | ⟨a,z,rfl⟩
 ·rcases Qd c with rfl | ⟨c,z,rfl⟩
  ·have:=dN (a:=[]) (c:=[]) (u:=d) (by simp)
   simpa using this
  have h1:(([]:List Int).reverse++((c.concat z).reverse++[d])).getD 0 0=z:=by simp[Qe]
  rw[h1];have h2:=dN (a:=[]) (c:=c.reverse++[d]) (u:=z) (by simp);have h3:([]++d :: c.concat z).reverse=[]++z :: (c.reverse++[d]):=by simp
  rw[h3,h2];simp[Qe]
 have h1:((a.concat z).reverse++(c.reverse++[d])).getD 0 0=z:=by simp[Qe]
 rw[h1];have hz:z ∉ c.reverse++[d]:=by
  rw[List.concat_eq_append,List.append_assoc,Qh] at hn;have h2:=hn.2.1;rw[List.singleton_append,Qi] at h2;intro k;rcases Qj.1 k with k | k
  ·exact h2.1 (Qa _ (Qo.1 k))
  exact h2.1 (by rw[Qb.1 k];simp)
 have h2:=dN (c:=a.reverse) hz;have h3:(a.concat z++d :: c).reverse=(c.reverse++[d])++z :: a.reverse:=by simp
 rw[h3,h2];simp[Qe]
def bY (aa:List (List Int)):List (List Int):=aa.map fun l=>first l.reverse
theorem kX (aa:List (List Int)) (v:Int):az (bY aa) v=first (az aa v).reverse:=by
 unfold az bY Qe;rw[List.getElem?_map];cases aa[v.toNat]? <;> rfl
theorem tU (l:List Int):(first l.reverse).Perm l:=(cI _).trans (Qn l)
theorem jt {g:Gr} {p:Pt} {aa:List (List Int)} (ht:aR g p aa):aR g p (bY aa):=by
 refine⟨by unfold bY;rw[List.length_map];exact ht.len,fun v=>?_,fun v h0 hn d=>?_⟩
 ·rw[kX];exact (tU _).nodup_iff.2 (ht.nodup v)
 rw[kX,(tU _).mem_iff];exact ht.mem v h0 hn d
def tL (x:Int):Int:=if x<0 then x else aT x
theorem NO {x:Int} (h:0<=x):0<=aT x:=by unfold aT;split <;> omega
theorem pw (x:Int):tL (tL x)=x:=by
 unfold tL;by_cases h:x<0
 ·rw[if_pos h,if_pos h]
 have:=NO (x:=x) (by omega);rw[if_neg h,if_neg (by omega),bC]
section
variable {g : Gr} {p q : Pt} {aa same : List (List Int)}
theorem tR (h:aB g p) {d:Int} (hd:d∈p.ah):tL d=aT d:=by unfold tL;rw[if_neg (by have:=pO h hd;omega)]
theorem GM {x:Int} (h:x<0):tL x=x:=if_pos h
theorem Ra {v:Int}:az (bY aa) v=[]↔az aa v=[]:=by
 rw[kX];constructor
 ·intro h
  have:=(tU (az aa v)).length_eq;rw[h] at this;exact List.length_eq_zero_iff.1 this.symm
 intro h;rw[h];rfl
theorem lO (h:aB g p) {x:Int}:x∈ground g p (bY aa) p.v↔x∈ground g p aa p.v:=by
 rw[jz h,jz h];simp only[Ra]
theorem lJ (h:aB g p) {x:Int} (hx:x∈ground g p aa p.v):tL x∈ground g p aa p.v:=by
 rcases (jz h).1 hx with hd | ⟨v,hv,e,rfl⟩
 ·rw[tR h hd];exact (jz h).2 (Qq (bQ hd))
 rw[GM (by have:=(h.vr v hv).1;omega)];exact hx
theorem FX (h:aB g p) (ht:aR g p aa) {d:Int} (hd:d∈p.ah):before g (bY aa) (before g aa d)=d:=by
 have TP:=Ii h ht hd;have hn:=ht.nodup (g.tail d);have dU:=rp hn TP;obtain⟨a1,a2⟩:=KL h ht (h.aO hd).1 dU;unfold before;rw[a2,kX,sx ((Qn _).nodup_iff.2 hn) _ (Qo.2 dU)];exact DW hn TP
theorem CG (h:aB g p) (ht:aR g p aa) {x:Int} (hx:x∈ground g p aa p.v):x7 g (bY aa) (tw p.e (tL (x7 g aa (tw p.e x))))=tL x:=by
 rcases (jz h).1 hx with hd | ⟨v,hv,e,rfl⟩
 ·have hn:=(nu ht (fun d hd=>yx h hd) hd).1
  rw[go_dart h h.en hd (aw.1 hd),tR h hn,tR h hd];rw[go_dart h h.en (bQ hn) (aw.1 (bQ hn))];unfold aG;rw[bC];exact FX h ht (bQ hd)
 have h0:=(h.vr v hv).1;have hk:tL (-1 - v) = -1 - v:=GM (by omega);have e1:x7 g aa (tw p.e (-1 - v)) = -1 - v:=go_key h.en h.er (by omega);have e2:x7 g (bY aa) (tw p.e (-1 - v)) = -1 - v:=go_key h.en h.er (by omega);rw[e1,hk,e2]
theorem rD (dm:p.err g=0) (ht:aR g p aa):bw (fun x=>x7 g (bY aa) (tw p.e x)) (eL g (cJ g p (bY aa)) p.v)/\(eL g (cJ g p (bY aa)) p.v).flatten.Perm (ground g p (bY aa) p.v):=by
 have h:=Pt.ay dm;have:=tX dm (jt ht) (mU dm (jt ht)) (kY.all h);rwa[ym h] at this
theorem rH (dm:p.err g=0) (ht:aR g p aa):bw (fun x=>x7 g aa (tw p.e x)) (eL g (cJ g p aa) p.v)/\(eL g (cJ g p aa) p.v).flatten.Perm (ground g p aa p.v):=by
 have h:=Pt.ay dm;have:=tX dm ht (mU dm ht) (kY.all h);rwa[ym h] at this
theorem LQ (dm:p.err g=0) (ht:aR g p aa) {x y:Int}:Same (eL g (cJ g p (bY aa)) p.v) x y->Same (eL g (cJ g p aa) p.v) (tL x) (tL y):=by
 have h:=Pt.ay dm;obtain⟨w1,w2⟩:=rH dm ht;obtain⟨m1,m2⟩:=rD dm ht;have hE:=Same.eqv w1.nodup;intro k;refine Same.least (hE.Uu tL) m1 (fun w hw=>?_) k;have hwK:=(lO h).1 (m2.mem_iff.1 hw);obtain⟨u,hu,e⟩:=w1.pred (w2.mem_iff.2 (lJ h hwK));have hn:=CG h ht (w2.mem_iff.1 hu);have e:x7 g aa (tw p.e u)=tL w:=e;rw[e,pw] at hn;show Same _ (tL w) (tL (x7 g (bY aa) (tw p.e w)));rw[hn,pw,<-e];exact hE.symm (Same.step w1 hu)
theorem Nt (dm:p.err g=0) (ht:aR g p aa) {x y:Int}:Same (eL g (cJ g p aa) p.v) x y->Same (eL g (cJ g p (bY aa)) p.v) (tL x) (tL y):=by
 have h:=Pt.ay dm;obtain⟨w1,w2⟩:=rH dm ht;obtain⟨m1,m2⟩:=rD dm ht;have hE:=Same.eqv m1.nodup;intro k;refine Same.least (hE.Uu tL) w1 (fun w hw=>?_) k;have hwK:=w2.mem_iff.1 hw;have hnK:=w2.mem_iff.1 (w1.next hw);have hn:=CG h ht hwK;have hs:=Same.step m1 (m2.mem_iff.2 ((lO h).2 (lJ h hnK)));have hs:Same (eL g (cJ g p (bY aa)) p.v) (tL (x7 g aa (tw p.e w))) (x7 g (bY aa) (tw p.e (tL (x7 g aa (tw p.e w))))):=hs;rw[hn] at hs;exact hE.symm hs
theorem J2 (dm:p.err g=0) (ht:aR g p aa):(cJ g p (bY aa)).length=(cJ g p aa).length:=by
 have h:=Pt.ay dm;obtain⟨w1,w2⟩:=rH dm ht;obtain⟨m1,m2⟩:=rD dm ht;have e1:=AR w1 w2;have e2:=AR m1 m2;rw[yX h (mU dm ht).ak] at e1;rw[yX h (mU dm (jt ht)).ak] at e2;rw[<-e1,<-e2];refine SJ (Same.eqv m1.nodup) (Same.eqv w1.nodup) tL (fun x hx=>lJ h ((lO h).1 hx)) (fun x _ y _=>⟨LQ dm ht,fun k=>?_⟩) (fun z hz=>⟨tL z,(lO h).2 (lJ h hz),by rw[pw];exact (Same.eqv w1.nodup).refl z⟩);have:=Nt dm ht k;rwa[pw,pw] at this
end
end Go.Proofs.YtoiflofhcmjpoaaGreat.Plain
namespace Go.Proofs.YtoiflofhcmjpoaaGreat
open Go.RowKit Go.Maps
theorem rB (v:Value) (l:List Int) (B:Nat) (w:World) (hn:l.length<1000000000) (h:aj w B v l) :
  Calls Tryz.prog 59 #[v] w fun e w'=>e=.returned (.tuple #[])/\aj w' B v (l.mergeSort fun x y=>decide (x<=y))/\ag v.ownBlock.toList w w':=by
 obtain⟨ao,c,rfl⟩:=h.shape;by_cases h0:l=[]
 ·subst h0
  refine (Tryz.slices_Sort_int_none ao c w).mono ?_;rintro e w' ⟨rfl,rfl⟩;exact⟨rfl,by rw[List.mergeSort_nil];exact h,ag.refl _ _⟩
 obtain⟨g,cap,e⟩:=cD h.1 (Ql.2 h0);cases e;have hl:(ints l).length=l.length:=by simp[ints]
 have bH:=h.1;rw[<-hl] at bH;have hH:Go.Sort.Holds (Qc .i64) w g 0 l.toArray:=je bH (by simp[ints]);have hg:g<w.heap.size:=nB h.1 rfl;refine (Tryz.slices_Sort_int g 0 _ l w hH hg (by omega)).mono ?_;rintro e w' ⟨rfl,n,os,rfl⟩;have hs:(l.mergeSort fun x y=>decide (x<=y)).length=l.length:=(Qg _ _).length_eq;have wH:=j6 (enc:=Qc .i64) (n:=n) (os:=os) (d:=(l.mergeSort fun x y=>decide (x<=y)).toArray) bH (by simp[hs,hl]);refine⟨rfl,⟨?_,fun x hx=>h.2.1 x ((Qg _ _).mem_iff.1 hx),by rw[hs];exact h.2.2⟩,?_⟩
 ·rw[hl] at wH
  rw[hs];exact wH
 exact lp (Qc .i64) w g n os _
namespace Plain
end Plain
namespace Plain
theorem qa {d:Array Int} (hs:∀ i j,i<j->j<d.size->d[i]!<=d[j]!):∀ m,m<=d.size->(Go.Lib.compactUpTo d m).Pairwise (·<·)/\∀ x,x∈Go.Lib.compactUpTo d m↔∃ j,j<m/\x=d[j]!
 | 0,_=>by simp[Go.Lib.compactUpTo]
 | m+1,hm=>by
  obtain⟨h1,h2⟩:=qa hs m (by omega);rw[Go.Lib.compactUpTo_succ];by_cases hk:Go.Lib.keeps d m=true
  ·rw[if_pos hk]
   have Fg:m=0\/d[m]!≠d[m - 1]!:=of_decide_eq_true hk;refine⟨List.pairwise_append.2 ⟨h1,List.pairwise_singleton _ _,fun a ha b hb=>?_⟩,fun x=>?_⟩
   ·obtain⟨j,hj,rfl⟩:=(h2 a).1 ha
    rw[Qb.1 hb];have nT:d[j]!<=d[m - 1]!:=by
     by_cases e:j=m - 1
     ·grind
     exact hs j (m - 1) (by omega) (by omega)
    have jo:=hs (m - 1) m (by omega) (by omega);have:=Fg.resolve_left (by omega);omega
   rw[Qj,h2,Qb];constructor
   ·rintro (⟨j,hj,q⟩ | q)
    ·exact⟨j,by omega,q⟩
    exact⟨m,by omega,q⟩
   rintro ⟨j,hj,q⟩;by_cases e:j=m
   ·rw[e] at q;exact Qs q
   exact Qq ⟨j,by omega,q⟩
  rw[if_neg hk,List.append_nil];have Fg:¬ (m=0\/d[m]!≠d[m - 1]!):=fun h=>hk (decide_eq_true h);refine⟨h1,fun x=>?_⟩;rw[h2];constructor
  ·rintro ⟨j,hj,q⟩;exact⟨j,by omega,q⟩
  rintro ⟨j,hj,q⟩;by_cases e:j=m
  ·refine⟨m - 1,by omega,?_⟩
   rw[q,e];exact Classical.byContradiction fun h=>Fg (Qs h)
  exact⟨j,by omega,q⟩
def tidy (l:List Int):List Int:=Go.Lib.compact (l.mergeSort fun x y=>decide (x<=y))
theorem zb (l:List Int):(tidy l).Pairwise (·<·)/\∀ x,x∈tidy l↔x∈l:=by
 have Ce:(l.mergeSort fun x y=>decide (x<=y)).Pairwise (·<=·):=by
  have:=List.pairwise_mergeSort (le:=fun x y:Int=>decide (x<=y)) (fun a b c h1 h2=>by grind) (fun a b=>by grind) l
  grind
 have hm:∀ x,x∈(l.mergeSort fun x y=>decide (x<=y))↔x∈l:=fun x=>(Qg _ _).mem_iff;unfold tidy
 revert Ce hm
 generalize (l.mergeSort fun x y=>decide (x<=y))=s;intro Ce hm;have dU:∀ i,i<s.length->s.toArray[i]! = s.getD i 0:=fun i hi=>by simp[Qe,hi,getElem!_pos]
 obtain⟨h1,h2⟩:=qa (d:=s.toArray) (fun i j DC hj=>by
  have hj:j<s.length:=by simpa using hj
  rw[dU i (by omega),dU j hj];have:=List.pairwise_iff_getElem.1 Ce i j (by omega) hj DC
  grind) s.length (by simp)
 refine⟨h1,fun x=>?_⟩;rw[<-hm];unfold Go.Lib.compact
 all_goals grind [aQ,bN]
end Plain
theorem JV {w:World} {B:Nat} {e:TypeId} {ao:Option Addr} {cap n m:Nat} {xs:List Value} (h:w.ownsRow B e 1 (.slice ao n cap) n xs) (hm:m<=n):w.ownsRow B e 1 (.slice ao m cap) m (xs.take m):=by
 have hl:=h.1;rcases h.2 with ⟨e1,h0⟩ | ⟨g,c,cur,e1,hg,hh,sU,oP,ja,Vj⟩
 ·cases e1
  obtain rfl:m=0:=by omega
  exact⟨by simp,Qq ⟨rfl,rfl⟩⟩
 simp only[Value.slice.injEq] at e1;obtain⟨rfl,-,rfl⟩:=e1;refine⟨by rw[List.length_take];omega,Qs ⟨g,cap,cur,rfl,hg,hh,by omega,oP,ja,?_⟩⟩;rw[<-Vj,List.take_take]
 congr 1
 omega
theorem po (v:Value) (l:List Int) (B:Nat) (w:World) (hn:l.length<1000000000) (h:aj w B v l) :
  Calls Tryz.prog 60 #[v] w fun e w'=>∃ v',e=.returned v'/\aj w' B v' (Go.Lib.compact l)/\ag v.ownBlock.toList w w':=by
 obtain⟨ao,c,rfl⟩:=h.shape;by_cases h0:l=[]
 ·subst h0
  refine (Tryz.slices_Compact_int_empty ao c w).mono ?_;rintro e w' ⟨rfl,rfl⟩;exact⟨_,rfl,h,ag.refl _ _⟩
 obtain⟨g,cap,e⟩:=cD h.1 (Ql.2 h0);cases e;have hl:(ints l).length=l.length:=by simp[ints]
 have bH:=h.1;rw[<-hl] at bH;have hH:Go.Sort.Holds (Qc .i64) w g 0 l.toArray:=je bH (by simp[ints]);have iD:l.length<=c:=by
  rcases h.1.2 with ⟨e1,_⟩ | ⟨g',c',cur,e1,_,_,sU,_⟩
  all_goals grind
 refine (Tryz.slices_Compact_int g 0 _ l w hH (by omega) iD).mono ?_;rintro e w' ⟨rfl,q,rfl⟩;have mm:(Go.Lib.compact l).length<=l.length:=by
  unfold Go.Lib.compact Go.Lib.compactUpTo
  grind
 have oP:∀ x∈Go.Lib.compact l,x∈l:=by
  intro x hx;unfold Go.Lib.compact Go.Lib.compactUpTo at hx
  grind
 obtain⟨D,hD⟩:∃ D,(Go.Lib.compact l++List.replicate (l.length - (Go.Lib.compact l).length) 0).toArray=D:=⟨_,rfl⟩;have hDs:D.size=(ints l).length:=by rw[<-hD,hl];simp;omega
 have wH:=j6 (enc:=Qc .i64) (n:=q) (os:=#[]) (d:=D) bH hDs;rw[hl] at wH;have hpt:=JV wH mm;have htk:(D.toList.map (Qc .i64)).take (Go.Lib.compact l).length=ints (Go.Lib.compact l):=by
  rw[<-hD,List.map_append,List.take_left' (by simp)];rfl
 rw[htk] at hpt;have hw:Go.Sort.putRow (Qc .i64) (Go.Sort.ahead w q) g 0 D=sortWorld (Qc .i64) w g 0 q D #[]:=by simp[sortWorld,Go.Sort.grow];rfl
 rw[hD,hw];refine⟨_,rfl,⟨?_,fun x hx=>h.2.1 x (oP x hx),by grind⟩,?_⟩
 ·exact hpt
 exact lp (Qc .i64) w g q #[] D
end Go.Proofs.YtoiflofhcmjpoaaGreat
namespace Go.Proofs.YtoiflofhcmjpoaaGreat.Plain
theorem Pt.zu {g:Gr} {p:Pt} (h0:g.err=0) (hv:gh p.v g.n=true) (he:gh p.e g.e.length=true) (hi:∀ e∈p.e,(g.ends e.toNat).1∈p.v/\(g.ends e.toNat).2∈p.v):p.err g=0:=by
 unfold Pt.err;rw[if_neg (by simp[h0]),if_neg (by simp[hv,he]),if_pos];rw[List.all_eq_true];intro i hx;obtain⟨h1,h2⟩:=hi _ (aQ (List.mem_range.1 hx));unfold Pt.eI;rw[decide_eq_true h1,decide_eq_true h2];rfl
end Go.Proofs.YtoiflofhcmjpoaaGreat.Plain
namespace Go.Proofs.YtoiflofhcmjpoaaGreat
open Go
section
variable {P : Program} {ops : Array Oper} {Q : Exit -> Act -> World -> Prop} {md : Region.Mode} {w0 : World} {fr : (Nat -> Value) -> Act} {z : Nat} {fin : List Nat}
def Calm (p:Value->World->Prop):Prop:=∀ u w w',ag [] w w'->p u w->p u w'
def GW (md:Region.Mode) (ops:Array Oper) (deps:List (List Nat)) (fin:List Nat):Bool :=
 let n:=ops.size
 apart ops.toList&&deps.length+1==n&&((Qr n).all fun i=>(jF md ops i).all fun x=>decide (x<i)) &&
 ((Qr (n - 1)).all fun i=>(deps.getD i []).all fun x=>(jF md ops i).contains x) &&
 ((Qr n).all fun j=>j==n - 1 || (reach md ops n (jF md ops (n - 1))).contains j)&&(fin.all fun x=>decide (x<n - 1))
end
end Go.Proofs.YtoiflofhcmjpoaaGreat
namespace Go.Proofs.YtoiflofhcmjpoaaGreat
open Go.RowKit Go.Maps
set_option maxRecDepth 100000 in
set_option maxHeartbeats 2000000 in
theorem JE (va vb:Value) (a b:Plain.Pt) (w:World) (ha:fL w va a) (hb:fL w vb b) :
  Calls Tryz.prog 113 #[va,vb] w fun e w'=>e=.returned (.bool (decide (a.v=b.v)&&decide (a.e=b.e)))/\ag [] w w':=by
 obtain⟨v1,v2,rfl,h1,h2⟩:=ha;obtain⟨u1,u2,rfl,k1,k2⟩:=hb;obtain⟨av,ae⟩:=a;obtain⟨bv,be⟩:=b;have H1:=lh h1;have H2:=lh h2;have K1:=lh k1;have K2:=lh k2;obtain⟨p1,c1,rfl,-⟩:=h1;obtain⟨p2,c2,rfl,-⟩:=h2;obtain⟨p3,c3,rfl,-⟩:=k1;obtain⟨p4,c4,rfl,-⟩:=k2;have iQ:=lh (show ag [] w ((w.alloc (.cells #[.slice p1 av.length c1,.slice p2 ae.length c2] 27)).alloc (.cells #[.slice p3 bv.length c3,.slice p4 be.length c4] 27)) from (show ag [] w ((w.alloc (.cells #[.slice p1 av.length c1,.slice p2 ae.length c2] 27)).alloc (.cells #[.slice p3 bv.length c3,.slice p4 be.length c4] 27)) from (((ag.refl [] w).alloc _).alloc _)));have dk:=heap_alloc_new w (.cells #[.slice p1 av.length c1,.slice p2 ae.length c2] 27);replace dk:=(show ag [] (w.alloc (.cells #[.slice p1 av.length c1,.slice p2 ae.length c2] 27)) ((w.alloc (.cells #[.slice p1 av.length c1,.slice p2 ae.length c2] 27)).alloc (.cells #[.slice p3 bv.length c3,.slice p4 be.length c4] 27)) from ((ag.refl [] (w.alloc (.cells #[.slice p1 av.length c1,.slice p2 ae.length c2] 27))).alloc _)).heap dk (by simp);have gX:=heap_alloc_new (w.alloc (.cells #[.slice p1 av.length c1,.slice p2 ae.length c2] 27)) (.cells #[.slice p3 bv.length c3,.slice p4 be.length c4] 27);rw[show (w.alloc (.cells #[.slice p1 av.length c1,.slice p2 ae.length c2] 27)).heap.size=w.heap.size+1 by simp] at gX;have HX:=lh (fun (w2:World) (eh:ag [] ((w.alloc (.cells #[.slice p1 av.length c1,.slice p2 ae.length c2] 27)).alloc (.cells #[.slice p3 bv.length c3,.slice p4 be.length c4] 27)) w2)=>(⟨eh.c ((cell_of_row _ _ 0 _ _ _ dk).trans rfl),eh.c ((cell_of_row _ _ 1 _ _ _ dk).trans rfl),eh.c ((cell_of_row _ _ 0 _ _ _ gX).trans rfl),eh.c ((cell_of_row _ _ 1 _ _ _ gX).trans rfl),by have hz:=eh.size;simpa using hz⟩:w2.cell? ⟨w.heap.size,0,none⟩=some (.slice p1 av.length c1)/\w2.cell? ⟨w.heap.size,1,none⟩=some (.slice p2 ae.length c2)/\w2.cell? ⟨w.heap.size+1,0,none⟩=some (.slice p3 bv.length c3)/\w2.cell? ⟨w.heap.size+1,1,none⟩=some (.slice p4 be.length c4)/\w.heap.size+2<=w2.heap.size));clear dk gX;have Gc:=lh (show ((w.alloc (.cells #[.slice p1 av.length c1,.slice p2 ae.length c2] 27)).alloc (.cells #[.slice p3 bv.length c3,.slice p4 be.length c4] 27)).heap.size=w.heap.size+2 by simp);obtain⟨x0,x1,y0,y1,dj⟩:=HX.out _ (ag.refl _ _)
 go_enter Tryz.func113,Tryz.ntmps113
 go_wp2_with fail
 generalize ((w.alloc (.cells #[.slice p1 av.length c1,.slice p2 ae.length c2] 27)).alloc (.cells #[.slice p3 bv.length c3,.slice p4 be.length c4] 27))=w1 at *;refine (Ha _ _ av bv _ (H1.out.fresh iQ.out) (K1.out.fresh iQ.out)).mono ?_;rintro e w2 ⟨rfl,bA⟩;have cB:=lh (iQ.out.t bA);clear x0 x1 y0 y1 dj;obtain⟨x0,x1,y0,y1,dj⟩:=HX.out _ bA;clear bA;by_cases h0:av=bv
 ·have HE:=lh (show decide (av=bv)=true from decide_eq_true h0)
  rw[HE.out];clear h0
  go_wp2_with fail
  refine (Ha _ _ ae be _ (H2.out.fresh cB.out) (K2.out.fresh cB.out)).mono ?_;rintro e w3 ⟨rfl,cT⟩;have cU:=lh (cB.out.t cT);clear x0 x1 y0 y1 dj cT;go_wp2;go_ret;exact⟨bm (by show _=(decide (av=bv)&&decide (ae=be));rw[HE.out];simp),cU.out⟩
 have HE:=lh (show decide (av=bv)=false from decide_eq_false h0);rw[HE.out];clear h0 x0 x1 y0 y1 dj;go_wp2;go_ret;exact⟨bm (by show _=(decide (av=bv)&&decide (ae=be));rw[HE.out];simp),cB.out⟩
end Go.Proofs.YtoiflofhcmjpoaaGreat
namespace Go.Proofs.YtoiflofhcmjpoaaGreat.Plain
def jW (x y:Int):List Int->List Int
 | []=>[]
 | z :: l=>if z=x then z :: y :: l else z :: jW x y l
theorem jR {x y:Int} {c:List Int}:∀ {a:List Int},x ∉ a->jW x y (a++x :: c)=a++x :: y :: c
 | [],_=>by simp[jW]
 | z :: a,h=>by
  have hz:z≠x:=fun e=>h (by rw[e];simp);have ih:=jR (x:=x) (y:=y) (c:=c) (a:=a) fun q=>h (Qa _ q);show (if z=x then z :: y :: (a++x :: c) else z :: jW x y (a++x :: c))=z :: (a++x :: y :: c);rw[if_neg hz,ih]
theorem tH {x y:Int} {l:List Int} (hx:x∈l):(jW x y l).Perm (y :: l):=by
 grind [mW,jR,bw.swap]
theorem oq {x y:Int} {l:List Int} (hn:l.Nodup) (hx:x∈l) (hy:y ∉ l):ahead (jW x y l) y=x:=by
 obtain⟨a,c,rfl,h⟩:=mW hx;rw[jR h,show a++x :: y :: c=(a++[x])++y :: c by simp,dN (by
  intro q;apply hy;rcases Qj.1 q with r | r
  ·simp[r]
  simp[Qb.1 r])]
 grind
theorem nY {x y:Int} {l:List Int} (hn:l.Nodup) (hx:x∈l) (hy:y ∉ l) {u:Int} (hu:u∈l):ahead (jW x y l) u=if ahead l u=x then y else ahead l u:=by
 obtain⟨a,c,rfl,h⟩:=mW hx;rw[jR h];have iI:(a++x :: y :: c).Nodup:=by
  grind
 have hun:u∈a++x :: y :: c:=by
  all_goals grind
 rw[<-rq hn hu,<-rq iI hun];have hm:(x :: c++a).Nodup:=(Qk.nodup_iff).1 hn;have Dt:u∈x :: (c++a):=by simpa using (Qk.mem_iff).1 hu
 have huy:u≠y:=fun e=>hy (e ▸ hu);rw[Qf] at hm;rw[Qf,Qf,Qf];generalize c++a=m at *;obtain⟨LJ,hmn⟩:=Qi.1 hm;have A0:ahead (x :: m) x=(m.reverse++[x]).getD 0 0:=by have:=dN (a:=[]) (c:=m) (u:=x) (by simp);simpa using this
 have A1:ahead (x :: y :: m) x=(m.reverse++[y,x]).getD 0 0:=by have:=dN (a:=[]) (c:=y :: m) (u:=x) (by simp);simpa using this
 rcases Qm.1 Dt with rfl | q
 ·all_goals grind
 obtain⟨b,d,rfl,hb⟩:=mW q;have hux:u≠x:=fun e=>LJ (by grind);have e1:=dN (a:=x :: b) (c:=d) (u:=u) (by grind);have e2:=dN (a:=x :: y :: b) (c:=d) (u:=u) (by grind);rw[show x :: (b++u :: d)=x :: b++u :: d by simp,show x :: y :: (b++u :: d)=x :: y :: b++u :: d by simp,e1,e2];rcases Qd b with rfl | ⟨b,z,rfl⟩
 ·simp[Qe]
 have hz:z≠x:=fun e=>LJ (by grind);simp[Qe,hz]
theorem uS {l:List Int} {a b:Int} (hn:l.Nodup) (hm:∀ x,x∈l↔x=a\/x=b) (qi:a≠b):ahead l a=b:=by
 match l,hn,hm with
 | [],_,hm=>exact absurd ((hm a).2 (Qq rfl)) (by simp)
 | [x],_,hm =>
  have h1:=(hm a).2 (Qq rfl);have h2:=(hm b).2 (Qs rfl)
  grind
 | [x,y],hn,hm =>
  have qI:x≠y:=by simpa using hn
  rcases (hm x).1 (by simp) with rfl | rfl
  ·rcases (hm y).1 (by simp) with rfl | rfl
   ·exact absurd rfl qI
   simp[ahead]
  all_goals grind [ahead]
 | x :: y :: z :: m,hn,hm =>
  exfalso;have qI:x≠y/\x≠z/\y≠z:=by simp at hn;exact⟨hn.1.1,hn.1.2.1,hn.2.1.1⟩
  have h1:=(hm x).1 (by simp);have h2:=(hm y).1 (by simp);have h3:=(hm z).1 (by simp)
  grind
def twins (w:List Int):List Int:=(w.map aT).reverse
theorem bw.adI {p q:Int->Int} {x z c:Int} {A B w:List Int} {R:List (List Int)} (h:bw p ((x :: A++z :: B) :: R)) (hw:Trail q c w z) (ht:∃ e t,twins (c :: w)=e :: t/\Trail q e t x) (sR:∀ y∈c :: w,y ∉ ((x :: A++z :: B) :: R).flatten) (FI:∀ y∈twins (c :: w),y ∉ ((x :: A++z :: B) :: R).flatten)
  (gS:(c :: w++twins (c :: w)).Nodup)
  (hx:∀ y∈((x :: A++z :: B) :: R).flatten,p y=x->q y=c) (hz:∀ y∈((x :: A++z :: B) :: R).flatten,p y=z->∀ e t,twins (c :: w)=e :: t->q y=e) (ho:∀ y∈((x :: A++z :: B) :: R).flatten,p y≠x->p y≠z->q y=p y) :
  bw q ((x :: A++twins (c :: w)) :: (c :: w++z :: B) :: R):=by
 obtain⟨e,t,het,ht⟩:=ht;have hr:=h.ring (x :: A++z :: B) (by simp);have fh:Trail p x (A++z :: B) x:=hr;obtain⟨h1,h2⟩:=Trail.append.1 fh;have oe:=h.nodup;have aiL:∀ y∈x :: A,y∈((x :: A++z :: B) :: R).flatten:=fun y hy=>by
  grind
 have ajJ:∀ y∈z :: B,y∈((x :: A++z :: B) :: R).flatten:=fun y hy=>by
  grind
 have atI:∀ y∈R.flatten,y∈((x :: A++z :: B) :: R).flatten:=fun y hy=>by
  grind
 have inj:=h.inj;have ZQ:(x :: A++z :: B).Nodup:=by
  grind
 have Tx:∀ y∈x :: A,y∈z :: B->False:=fun y a b=>(Qh.1 ZQ).2.2 y a y b rfl;have hxR:∀ y∈R.flatten,y∈x :: A++z :: B->False:=fun y a b=>by
  grind
 -- trails of the old ring,in the new turns
 have step:∀ {l:List Int} {a b k:Int},(b=x/\k=c\/b=z/\k=e)->(∀ y∈a :: l,y∈((x :: A++z :: B) :: R).flatten)->(∀ y∈l,y≠x/\y≠z)->Trail p a l b->Trail q a l k:=by
  intro l
  induction l with
  | nil =>
   intro a b k hb fp _ hp;have hp:p a=b:=hp;show q a=k
   all_goals grind
  | cons y l ih =>
   intro a b k hb fp hl hp;obtain⟨e1,e2⟩:=hp;refine⟨?_,ih hb (fun u hu=>fp u (Qa _ hu)) (fun u hu=>hl u (Qa _ hu)) e2⟩
   grind
 have hA:Trail q x A e:=step (Qs ⟨rfl,rfl⟩) aiL (fun y hy=>⟨fun q=>by
  rw[q] at hy;have:=(Qh.1 ZQ).1;exact (Qi.1 this).1 hy,fun q=>Tx y (Qa _ hy) (by rw[q];simp)⟩) h1
 have hB:Trail q z B c:=step (Qq ⟨rfl,rfl⟩) ajJ (fun y hy=>⟨fun q=>Tx y (by grind) (Qa _ hy),fun q=>by
  grind⟩) h2
 refine⟨fun d hd=>?_,?_⟩
 ·rcases Qm.1 hd with rfl | hd
  ·rw[het]
   show Trail q x (A++e :: t) x
   grind [Trail.append]
  rcases Qm.1 hd with rfl | hd
  ·show Trail q c (w++z :: B) c
   grind [Trail.append]
  refine (h.ring d (Qa _ hd)).congr fun y hy=>?_;have hyR:y∈R.flatten:=Qp.2 ⟨d,hd,hy⟩;have hpy:p y∈R.flatten:=Qp.2 ⟨d,hd,(h.ring d (Qa _ hd)).pT.mem_iff.1 (List.mem_map.2 ⟨y,hy,rfl⟩)⟩
  grind
 have hp:((x :: A++twins (c :: w)) :: (c :: w++z :: B) :: R).flatten.Perm ((c :: w++twins (c :: w))++((x :: A++z :: B) :: R).flatten):=by
  rw[List.perm_iff_count];intro y;simp only[List.flatten_cons,List.count_append];omega
 all_goals grind
end Go.Proofs.YtoiflofhcmjpoaaGreat.Plain
