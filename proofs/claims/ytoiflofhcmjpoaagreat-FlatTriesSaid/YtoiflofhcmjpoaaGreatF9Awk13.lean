/- law 13's awake and small: contracts. Conditions of small: a graph, a part that lie in memory and read so. -/
import Derived.Test.YtoiflofhcmjpoaaGreatF9GSpan
set_option maxRecDepth 100000
set_option maxHeartbeats 8000000
open Go.Value renaming slice→Qa,ownBlock→Qh,int→QE
open List renaming take_succ_eq_append_getElem→Qb,getD→Qd,eraseIdx_of_length_le→Qe,mem_singleton→Qj,setIfInBounds_toArray→Ql,take_of_length_le→Qm,getElem_cons_zero→Qn,getElem_cons_succ→Qo,length_set→Qp,replicate→Qr,getElem_toArray→Qt,getElem?_set_ne→Qu,mem_cons→Qv,set_cons_zero→Qx,set_cons_succ→Qy,not_mem_nil→QA,length_take→QB,length_cons→QC,length→QH
open Nat renaming le_trans→Qc,le_mul_of_pos_right→Qg,le_refl→Qi,add_sub_cancel→Qk,zero_le→Qq,mul_le_mul_right→Qs,mul_assoc→QD,zero_add→QF,mul_comm→QG
open Go.Act renaming put→Qf
open Or renaming inr→Qw,inl→QI
open Bool renaming eq_false_iff→Qz
-- READS ONLY
namespace Go.Proofs.YtoiflofhcmjpoaaGreat
open Plain
open Go.RowKit Go.Maps
theorem TH {w:World} {b:Nat} {l:List Int} {cs:Array Value} (h:w.heap[b]?=some (.cells cs 3)) (ja:cs.toList=l.map λx=>QE .i64 x) (hl:∀ x∈l,bF x) (hb:l.length<100000):aI w (.slice (some ⟨b,0,none⟩) l.length l.length) l:=by
 refine⟨_,l.length,rfl,hl,by omega,λ_=>⟨b,0,rfl,λi hi=>?_⟩⟩;rw[cell_of_row _ _ _ _ _ _ h,QF,<-Array.getElem?_toList,ja,List.getElem?_map]
 grind
namespace Plain
theorem aac:¬ gN gM pM:=BV agQ (by decide)
theorem aa6:bV gM pM 0=pM6:=by
 have h:dR pM 0=pM6:=by rfl
 unfold bV;rw[h,if_neg (by rw[gy];exact BV YC (by decide))]
theorem aeA {k:Nat} (h1:1<=k) (h2:k<=10):bV gM pM6 k=pM6:=by
 grind [bV,gy,OZ]
theorem agb:Ca gM pM=[1,2,3,4,5,6,7,8,9,10]:=by
 show (bV gM (bV gM (bV gM (bV gM (bV gM (bV gM (bV gM (bV gM (bV gM (bV gM (bV gM pM 0) ((1:Nat):Int)) ((2:Nat):Int)) ((3:Nat):Int)) ((4:Nat):Int)) ((5:Nat):Int)) ((6:Nat):Int)) ((7:Nat):Int)) ((8:Nat):Int)) ((9:Nat):Int)) ((10:Nat):Int)).e=_;rw[aa6]
 iterate 10 rw[aeA (by decide) (by decide)]
 rfl
theorem agN:vT gM [1,2,3,4,5,6,7,8,9,10]=5:=by
 have hv:(dO gM [1,2,3,4,5,6,7,8,9,10]).v=[0,1,2,3,4]:=jZ (lM _).1 (by decide) λx=>by
  show x∈tidy (cY gM [1,2,3,4,5,6,7,8,9,10])↔_;rw[(lM _).2,show cY gM [1,2,3,4,5,6,7,8,9,10]=[0,1,0,2,0,3,0,4,1,2,1,3,1,4,2,3,2,4,3,4] by decide];simp only[Qv,QA,or_false];omega
 have hd:qS gM [1,2,3,4,5,6,7,8,9,10]=[4,4,4,4,4]:=by
  unfold qS;rw[hv];decide
 unfold vT LK;rw[if_pos (by decide),hd];decide
def rp:List Int:=[1,2,3,4,5,6,7,8,9,10]
def sP (g:Gr) (p:Pt):Bool:=km g p&&decide (p.e.length<=18)&&decide (p.v.length<=20)
theorem JE {g:Gr} {p:Pt} (h:sP g p=true):p.e.length<=18/\p.v.length<=20/\g.e.length<=60:=by
 grind [sP,km]
end Plain
theorem lP (w:World):Calls Tryz.prog 10 #[] w λe w'=>e=.returned (.bool true)/\ai [] w w':=by
 have gJ:=lh (show ai [] w ((w.alloc (.cells #[.int .i64 0,.int .i64 5] 72)).alloc (.cells #[.int .i64 6,.slice (some ⟨w.heap.size,0,none⟩) 1 1] 24)) from (show ai [] w ((w.alloc (.cells #[.int .i64 0,.int .i64 5] 72)).alloc (.cells #[.int .i64 6,.slice (some ⟨w.heap.size,0,none⟩) 1 1] 24)) from (((ai.refl [] w).alloc _).alloc _)));have cf:=heap_alloc_new w (.cells #[.int .i64 0,.int .i64 5] 72);replace cf:=(show ai [] (w.alloc (.cells #[.int .i64 0,.int .i64 5] 72)) ((w.alloc (.cells #[.int .i64 0,.int .i64 5] 72)).alloc (.cells #[.int .i64 6,.slice (some ⟨w.heap.size,0,none⟩) 1 1] 24)) from ((ai.refl [] (w.alloc (.cells #[.int .i64 0,.int .i64 5] 72))).alloc _)).heap cf (by simp);have ig:=heap_alloc_new (w.alloc (.cells #[.int .i64 0,.int .i64 5] 72)) (.cells #[.int .i64 6,.slice (some ⟨w.heap.size,0,none⟩) 1 1] 24);rw[show (w.alloc (.cells #[.int .i64 0,.int .i64 5] 72)).heap.size=w.heap.size+1 by simp] at ig;have HX:=lh (λ(w2:World) (dN:ai [] ((w.alloc (.cells #[.int .i64 0,.int .i64 5] 72)).alloc (.cells #[.int .i64 6,.slice (some ⟨w.heap.size,0,none⟩) 1 1] 24)) w2)=>(⟨dN.heap cf (by simp),dN.heap ig (by simp),by have hz:=dN.size;simpa using hz⟩:w2.heap[w.heap.size]?=some (.cells #[.int .i64 0,.int .i64 5] 72 (0,0))/\w2.heap[w.heap.size+1]?=some (.cells #[.int .i64 6,.slice (some ⟨w.heap.size,0,none⟩) 1 1] 24 (0,0))/\w.heap.size+2<=w2.heap.size));clear cf ig;have xJ:=lh (show ((w.alloc (.cells #[.int .i64 0,.int .i64 5] 72)).alloc (.cells #[.int .i64 6,.slice (some ⟨w.heap.size,0,none⟩) 1 1] 24)).heap.size=w.heap.size+2 by simp);obtain⟨rb,ra,bs⟩:=HX.out _ (ai.refl _ _);go_enter Tryz.func10,Tryz.ntmps10;go_wp2_with fail;generalize ((w.alloc (.cells #[.int .i64 0,.int .i64 5] 72)).alloc (.cells #[.int .i64 6,.slice (some ⟨w.heap.size,0,none⟩) 1 1] 24))=w1 at *;obtain⟨ab,qD⟩:∃ n,w.heap.size=n:=⟨_,rfl⟩;rw[qD] at ra rb bs ⊢;have RA:=lh ra;have Iw:=lh qD;have qk:=lh bs;have HOW:=lh (show w1.ownsRow ab 72 2 (.slice (some ⟨ab,0,none⟩) 1 1) ((0,5) :: iC 0 1).length (eL ((0,5) :: iC 0 1)) from⟨rfl,Qw ⟨ab,1,_,rfl,Qi _,rb,Qi _,by decide,rfl,rfl⟩⟩);clear qD ra rb bs;go_loopw [2,3] (λc _ wr=>∃ a:Nat,a<=5/\c=.int .i64 a/\∃ v,wr.heap[ab+1]?=some (.cells #[.int .i64 6,v] 24 (0,0))/\wr.ownsRow ab 72 2 v ((0,5) :: iC a (a+1)).length (eL ((0,5) :: iC a (a+1)))/\ai [ab,ab+1] w1 wr) (λc _ _=>5 - (intOf c).toNat);case atStart=>exact⟨0,by omega,rfl,_,RA.out,HOW.out,ai.refl _ _⟩
 case round =>
  obtain⟨a,ha,rfl,v,hh,ho,hc⟩:=hrel;have HH:=lh hh;have HO:=lh ho;have HC:=lh hc;clear hh ho hc;by_cases aW:a<5
  ·have hai:(a:Int)<5:=by omega
   go_wp2_with fail;go_loopw [3] (λc wr=>∃ b:Nat,a<b/\b<=5/\c=.int .i64 b/\∃ v,wr.heap[ab+1]?=some (.cells #[.int .i64 6,v] 24 (0,0))/\wr.ownsRow ab 72 2 v ((0,5) :: iC a b).length (eL ((0,5) :: iC a b))/\ai [ab,ab+1] w1 wr) (λc _=>5 - (intOf c).toNat);case atStart=>exact⟨a+1,by omega,by omega,by go_num,v,HH.out,HO.out,HC.out⟩
   case round =>
    obtain⟨b,iz,gY,rfl,v2,hh,ho,hc⟩:=hrel;have HH2:=lh hh;have zF:=lh ho;have bU:=lh hc;clear HH HO HC;by_cases gZ:b<5
    ·have Tz:(b:Int)<5:=by omega
     have c1:=(cell_of_row _ _ 1 _ _ _ hh).trans (show _=some v2 from rfl);have Pk:=lh (KV a (by omega) b (by omega));have qO:=lh (G7 a aW b gZ iz);have HB1:=lh hc.size;obtain⟨ao,cp,rfl⟩:=bR ho;have Ii:=lh (show ab+1 ∉ (Qa ao ((0,5) :: iC a b).length cp).ownBlock.toList from λq=>by
      have hk:bL wr (ab+1) 24:=⟨_,_,hh⟩;have h2:=bM ho (b:=ab+1) (by grind);exact h2.ne hk (by decide) rfl)
     obtain⟨L,hL⟩:∃ L,(0,5) :: iC a b=L:=⟨_,rfl⟩;have alL:=lh (show (0,5) :: iC a (b+1)=L++[((a:Int),(b:Int))] by rw[qO.out,<-hL];rfl);have Eb:L.length<=31:=by have:=Pk.out;rw[<-hL];simpa using this
     rw[hL] at Ii zF c1 HH2;have Vu:=bE HH2.out 1;clear hh ho hc hL Pk qO;go_wp2_with (at_builtin;refine pj Sq rfl _ _ rfl (v:=.slice ao L.length cp) (B:=ab) (cs:=#[.int .i64 a,.int .i64 b]) rfl rfl rfl zF.out (by have:=HB1.out;have:=qk.out;omega) rfl (by intro u hu;simp at hu;rcases hu with rfl | rfl <;> rfl) (by omega) ?_;intro g' gF w' r1 r2 r3;have R1:=lh r1;have R2:=lh r2;have c1':=r2.cell c1 Ii.out;have f1':=bE (r2.heap HH2.out Ii.out) 1;clear r1 r2 r3);have hh3:=R2.out.heap HH2.out Ii.out;have aT:=R1.out;have hk:bL w' (ab+1) 24:=⟨_,_,hh3⟩;have PD:=bM aT (b:=g') rfl;have br:ai [ab+1] w' (w'.setCell ⟨ab+1,1,none⟩ (.slice (some ⟨g',0,none⟩) (L.length+1) gF)):=by grind [ai.refl,ai.setCell]
     refine⟨⟨b+1,by omega,by omega,by go_num,_,heap_setCell_same hh3 1 _,?_,?_⟩,by simp[intOf];omega⟩
     ·rw[alL.out,y7,List.length_append]
      exact bG aT br (λj hj=>by
       have e:g'=j:=by simpa[Qh] using hj
       rw[Qj,<-e];exact PD.ne hk (by decide))
     exact (bU.out.trans R2.out (λj hj=>by
      have h1:=(zF.out.lt j (by grind)).1;have h2:=xJ.out;have h3:=Iw.out
      grind)).trans br (λj hj=>QI (by rw[Qj.1 hj];simp))
    have e:b=5:=by omega
    subst e;have bA:=lh (KJ a aW);rw[bA.out] at zF;clear gZ;go_wp2_with fail;exact⟨⟨a+1,by omega,by go_num,v2,HH2.out,zF.out,bU.out⟩,by simp[intOf];omega⟩
  have e:a=5:=by omega
  subst e;have c0:=(cell_of_row _ _ 0 _ _ _ HH.out).trans (show _=some (QE .i64 6) from rfl);have c1:=(cell_of_row _ _ 1 _ _ _ HH.out).trans (show _=some v from rfl);obtain⟨ao,cp,rfl⟩:=bR HO.out;have HGM:=lh (P5 (g:=gM) (B:=ab) (bF.mk (by decide) (by decide)) (λi hi=>by
   have h1:=(show ∀ i,i<11->(0<=(gM.ends i).1/\(gM.ends i).1<6)/\0<=(gM.ends i).2/\(gM.ends i).2<6 by decide) i hi
   grind [bF.mk]) (by decide) HO.out)
  have ji:=lh (show ai [] w wr from gJ.out.trans HC.out (λj hj=>Qw (by
   rw[Iw.out];simp only[Qv,QA,or_false] at hj;omega)))
  clear aW ha HC HO HH RA HOW qk;have xu:((0,5) :: iC 5 6).length=11:=rfl;rw[xu] at c1;have abI:Hid (cA wr (.agg #[.int .i64 6,.slice ao 11 cp]) gM):=HGM;clear HGM xu;go_upto_region 9 with fail;have aG:ai [] wr wr.drew:=(ai.refl [] wr).drew;refine al (ai [] wr) [0,1,4,5,6,7,8] (Way.line [0,1,2,3,4,5,6,7,8] .done) (by kernel_rfl) (by kernel_rfl) ?_;simp only[Way.line]
  repeat (refine aj (v:=?_) rfl (by rfl) (by rfl) (λ_ _ _ h=>h) aG (λw' aB=>?_) ?_;rotate_left;(focus (have fE:=aB.c c0;have fV:=aB.c c1;clear aB;go_simp;try with_reducible rfl));simp only[Qf,Z1,Z2,Z3,Z4,Z5,Z6])
  refine aq rfl (by rfl) (by rfl) (λK hK=>?_);go_simp;refine (OT _ gM 6 _ rfl (by decide) (by decide) (abI.out.fresh aG)).mono ?_;rintro e w2 ⟨v1,v2,rfl,r1,r2,eV⟩;have bH:=aG.t eV;clear aG eV;have aG:=bH;clear bH;refine hK.out _ _ (λ_=>aG) ?_;clear hK K;try simp only[Qf,Z1,Z2,Z3,Z4,Z5,Z6]
  refine aq rfl (by rfl) (by rfl) (λK hK=>?_);go_simp;refine (Ul _ _ gM pM _ (by decide) (by decide) (abI.out.fresh aG) ⟨v1,v2,rfl,r1.ints,r2.ints⟩).mono ?_;rintro e w3 ⟨-,sx,eV⟩;obtain⟨v3,rfl,r3⟩:=sx aac agQ;rw[show Ca gM pM=rp from agb] at r3;have bH:=aG.tr eV;clear aG eV;have PI:=lh r3;obtain⟨a3,p3,rfl⟩:=r3.shape;refine hK.out _ _ (λ_=>bH) ?_;clear hK K;try simp only[Qf,Z1,Z2,Z3,Z4,Z5,Z6]
  repeat (refine aj (v:=?_) rfl (by rfl) (by rfl) (λ_ _ _ h=>h) bH (λw' aB=>?_) ?_;rotate_left;(focus (have fE:=aB.c c0;have fV:=aB.c c1;clear aB;go_simp;try with_reducible rfl));simp only[Qf,Z1,Z2,Z3,Z4,Z5,Z6])
  refine ar ?_;have vP:=lh bH;clear bH r1 r2 r3;go_wp2_with fail;have hL:(rp).length=10:=rfl;have yt:=TH (l:=rp) (heap_alloc_new w3 (.cells #[.int .i64 1,.int .i64 2,.int .i64 3,.int .i64 4,.int .i64 5,.int .i64 6,.int .i64 7,.int .i64 8,.int .i64 9,.int .i64 10] 3)) rfl (λx hx=>by
   have h1:=(show ∀ x∈rp,1<=x/\x<=10 by decide) x hx
   grind [bF.mk]) (by decide)
  have lu:=(ai.refl [] w3).alloc (.cells #[.int .i64 1,.int .i64 2,.int .i64 3,.int .i64 4,.int .i64 5,.int .i64 6,.int .i64 7,.int .i64 8,.int .i64 9,.int .i64 10] 3);have sI:=lh (vP.out.tr lu);refine (N9 _ _ rp rp _ (PI.out.ints.fresh lu) yt).mono ?_;rintro e w4 ⟨rfl,gX⟩;have UG:=lh (sI.out.tr gX);have Ms:decide (rp=rp)=true:=by simp
  rw[Ms];have Ez:=lh ((PI.out.ints.fresh lu).fresh gX);have c0':=UG.out.bO c0;have c1':=UG.out.bO c1;clear gX yt lu Ms c0 c1 hL;go_wp2_with fail;refine (RI _ _ gM rp _ (abI.out.fresh UG.out) Ez.out).mono ?_;rintro e w5 ⟨rfl,dV⟩;have YP:=lh (UG.out.tr dV);rw[show vT gM rp=5 from agN];clear dV;go_wp2;go_ret;exact⟨rfl,ji.out.tr YP.out⟩
theorem Fj (vg vp:Value) (g:Gr) (p:Pt) (w:World) (hg:cA w vg g) (hp:dt w vp p) :
  Calls Tryz.prog 11 #[vg,vp] w λe w'=>e=.returned (.bool (sP g p))/\ai [] w w':=by
 obtain⟨eo,cap,ao,ac,bo,bc,rfl,rfl,HG,HP,hm,uJ,oJ,pU,nG,xL,uD,aY,bm⟩:=eF hg hp;clear hg hp;obtain⟨x0,x1,y0,y1,bs⟩:=bm.out _ (ai.refl _ _);go_enter Tryz.func11,Tryz.ntmps11;go_wp2_with fail;obtain⟨w1,gu⟩:∃ w1,((w.alloc (.cells #[.int .i64 g.n,.slice eo g.e.length cap] 24)).alloc (.cells #[.slice ao p.v.length ac,.slice bo p.e.length bc] 27))=w1:=⟨_,rfl⟩;rw[gu] at aY bm ⊢;clear gu x0 x1 y0 y1 bs;refine (JS _ _ g p _ (HG.out.fresh aY.out) (HP.out.fresh aY.out)).mono ?_;rintro e w2 ⟨rfl,bI⟩;have bU:=lh (aY.out.tr bI);obtain⟨x0,x1,y0,y1,bs⟩:=bm.out _ bI;have iL:=lh (show sP g p=(km g p&&decide (p.e.length<=18)&&decide (p.v.length<=20)) from rfl);clear bI;cases hb:km g p with
 | false =>
  rw[hb] at iL;rw[show bit false=0 from rfl];clear hb;go_wp2;go_ret;exact⟨aM (by rw[iL.out];first | rfl | simp <;> omega),bU.out⟩
 | true =>
  rw[hb] at iL;rw[show bit true=1 from rfl];clear hb;by_cases h1:p.e.length<=18
  ·have e1:decide (p.e.length<=18)=true:=decide_eq_true h1
   have i1:(p.e.length:Int)<=18:=by omega
   rw[e1] at iL;by_cases h2:p.v.length<=20
   ·have e2:decide (p.v.length<=20)=true:=decide_eq_true h2
    have i2:(p.v.length:Int)<=20:=by omega
    rw[e2] at iL;go_wp2;go_ret;exact⟨aM (by rw[iL.out];first | rfl | simp <;> omega),bU.out⟩
   have e2:decide (p.v.length<=20)=false:=decide_eq_false h2;have i2:¬ (p.v.length:Int)<=20:=by omega
   rw[e2] at iL;go_wp2;go_ret;exact⟨aM (by rw[iL.out];first | rfl | simp <;> omega),bU.out⟩
  have e1:decide (p.e.length<=18)=false:=decide_eq_false h1;have i1:¬ (p.e.length:Int)<=18:=by omega
  rw[e1] at iL;go_wp2;go_ret;exact⟨aM (by rw[iL.out];first | rfl | simp <;> omega),bU.out⟩
end Go.Proofs.YtoiflofhcmjpoaaGreat
-- READS ONLY
namespace Go.Proofs.YtoiflofhcmjpoaaGreat
open Plain
open Go.RowKit Go.Maps
namespace Plain
variable {l m:List Int} {j k n:Nat}
def tu (n:Nat) (l:List Int) (j:Nat):List (List Int):=(List.range j).flatMap λj=>(eZ n (l.getD (j+1) 0 :: (l.drop 1).eraseIdx j)).map (l.getD 0 0 :: ·)
theorem My (n:Nat) (l:List Int):tu n l (n+1)=eZ (n+1) l:=rfl
theorem Iy (n:Nat) (l:List Int) (j:Nat):tu n l (j+1)=tu n l j++(eZ n (l.getD (j+1) 0 :: (l.drop 1).eraseIdx j)).map (l.getD 0 0 :: ·):=by
 unfold tu;rw[List.range_succ,List.flatMap_append];simp
theorem CH (n:Nat) (l:List Int) (j:Nat):(tu n l j).length=j*fact n:=by
 unfold tu;rw[qf (c:=fact n) λj _=>by rw[List.length_map,l5 n],List.length_range]
theorem W9:∀ n,n<=fact n
 | 0=>by decide
 | n+1=>Qc (by omega) (Qg (n+1) (pF n))
theorem Dh (n:Nat):fact n<=fact (n+1):=Nat.le_mul_of_pos_left _ (by omega)
def ft (l:List Int) (j k:Nat):List Int:=l.getD (j+1) 0 :: ((l.drop 1).take k).eraseIdx j
theorem EV (hk:k+1<l.length):ft l j (k+1)=if k=j then ft l j k else ft l j k++[l.getD (k+1) 0]:=by
 have hd:k<(l.drop 1).length:=by simp;omega
 have e:(l.drop 1).take (k+1)=(l.drop 1).take k++[l.getD (k+1) 0]:=by
  rw[Qb hd];congr 2;rw[List.getElem_drop];simp[Qd,Nat.add_comm,hk]
 have ht:((l.drop 1).take k).length=k:=by rw[QB];omega
 unfold ft;rw[e];by_cases q:k=j
 ·subst q
  have e1:((l.drop 1).take k++[l.getD (k+1) 0]).eraseIdx k=(l.drop 1).take k:=by
   rw[List.eraseIdx_append_of_length_le (by omega),ht];simp
  have e2:((l.drop 1).take k).eraseIdx k=(l.drop 1).take k:=Qe (by omega);rw[if_pos rfl,e1,e2]
 rw[if_neg q];by_cases q2:j<k
 ·rw[List.eraseIdx_append_of_lt_length (by omega)];rfl
 rw[Qe (by simp;omega),Qe (by omega)];rfl
theorem Au (hl:l.length=n+1):ft l j n=l.getD (j+1) 0 :: (l.drop 1).eraseIdx j:=by
 unfold ft;rw[Qm (by simp;omega)]
theorem GM (l:List Int) (j:Nat):ft l j 0=[l.getD (j+1) 0]:=by simp[ft]
theorem J9 (j k:Nat):(ft l j k).length<=l.length+1:=by
 unfold ft;have h1:=List.length_eraseIdx_le ((l.drop 1).take k) j;have h2:=List.length_take_le k (l.drop 1);have h3:((l.drop 1).take k).length<=l.length:=by rw[QB,List.length_drop];omega
 rw[QC];omega
theorem G2 (hl:l.length=n+2) (hj:j<=n):(ft l j (n+1)).length=n+1:=by
 rw[Au (n:=n+1) hl,QC,List.length_eraseIdx,if_pos (by simp;omega)];simp;omega
theorem I' (k:Nat) (hj:j+1<l.length):∀ x∈ft l j k,x∈l:=λx hx=>by
 rcases Qv.1 hx with r | r
 ·rw[r];simp[Qd,hj]
 exact List.mem_of_mem_drop (List.mem_of_mem_take (List.mem_of_mem_eraseIdx r))
theorem zU (hl:l.length=n+1) (hm:m∈eZ n l):(∀ x∈m,x∈l)/\m.length=l.length:=by
 have h:=((l8 hl).1 hm).1;exact⟨λx hx=>h.mem_iff.1 hx,h.length_eq⟩
end Plain
theorem bt.alR {w:World} {B:Nat} {v:Value} {l:List Int} (h:aw w B v l) (hB:B<=w.heap.size):bt (w.alloc (.cells #[v] 25)) B (.slice (some ⟨w.heap.size,0,none⟩) 1 1) [v] [l] :=
 ⟨World.ownsRow_lit w #[v] 1 hB (by decide) rfl,rfl,λk hk=>by
  obtain rfl:k=0:=by simpa using hk
  exact (h.aL ((ai.refl [] w).alloc _) (by simp)).1,λk l hk hl bn=>by
  simp at hk hl;omega⟩
theorem xh (v:Value) (l:List Int) (w:World) (hl:l.length<=1) (h:aI w v l) :
  Calls Tryz.prog 72 #[v] w λe w'=>∃ ov vs,e=.returned ov/\bt w' w.heap.size ov vs [l]/\ai [] w w':=by
 have H:=lh h;obtain⟨lo,lc,rfl,-,-,-⟩:=h;go_enter Tryz.func72,Tryz.ntmps72;have yJ:(l.length:Int)<=1:=by omega
 have yt:aw (w.alloc (.cells #[] 3)) w.heap.size (.slice (some ⟨w.heap.size,0,none⟩) 0 0) []:=⟨World.ownsRow_lit w #[] 0 (Qi _) (by decide) rfl,by simp,by decide⟩;have qJ:=(ai.refl [] w).alloc (.cells #[] 3);have Tp:=lh yt;have xa:=lh qJ;clear yt qJ;go_wp2_with (at_builtin;refine cH rfl _ _ rfl (B:=w.heap.size) (v:=.slice (some ⟨w.heap.size,0,none⟩) 0 0) (u:=.slice lo l.length lc) (l:=[]) (m:=l) rfl rfl Tp.out (H.out.fresh xa.out) xa.out.size (by simp;omega) ?_;intro v6 w6 r6 c6 f6;rw[List.nil_append] at r6;have R6:=lh r6;have C6:=lh (xa.out.trans c6 (λj hj=>Qw (by simp[aC,Qh] at hj;omega)));obtain⟨vo,vc,rfl⟩:=r6.shape;clear r6 c6 f6);go_ret;exact⟨_,_,rfl,bt.alR R6.out C6.out.size,C6.out.alloc _⟩
theorem Fy (n:Nat) (ih:∀ (v:Value) (l:List Int) (w:World),l.length=n+1->aI w v l->Calls Tryz.prog 72 #[v] w λe w'=>∃ ov vs,e=.returned ov/\bt w' w.heap.size ov vs (eZ n l)/\ai [] w w')
  (v:Value) (l:List Int) (w:World) (hl:l.length=n+2) (hf:fact (n+1)<=100000) (h:aI w v l) :
  Calls Tryz.prog 72 #[v] w λe w'=>∃ ov vs,e=.returned ov/\bt w' w.heap.size ov vs (eZ (n+1) l)/\ai [] w w':=by
 have H:=lh h;obtain⟨lo,lc,rfl,fx,-,lu⟩:=h;obtain⟨lb,ayF,rfl,Tc⟩:=lu (by intro q;rw[q] at hl;simp at hl);have WL:=lh fx;have LB:=lh Tc;clear fx lu Tc;have HF:=lh hf;have HFN:=lh (show n<=100000 from Qc (Qc (W9 n) (Dh n)) hf);have xu:=lh hl;have Da:¬ (l.length:Int)<=1:=by omega
 have hl9:l.length<=100002:=by have:=HFN.out;omega
 have IH:=lh ih;clear ih hf hl;go_enter Tryz.func72,Tryz.ntmps72;go_wp2_with fail;clear Da;go_loopw [3,4,5,6,7,8] (λov c _ _ _ _ wr=>∃ (j:Nat) (vs:List Value),j<=n+1/\c=.int .i64 ((j:Int)+1)/\bt wr w.heap.size ov vs (tu n l j)/\ai [] w wr) (λ_ c _ _ _ _ _=>n+2 - (intOf c).toNat);case atStart=>exact⟨0,[],Qq _,rfl,bt.nil _ _,ai.refl _ _⟩
 case round =>
  obtain⟨j,vs,hj,rfl,lG,hc⟩:=hrel;have Ex:=lh lG;have HC:=lh hc;obtain⟨oo,oc,rfl⟩:=bR lG.out;have Cl:vs.length=j*fact n:=by rw[lG.len,CH]
  have Sm:vs.length<=100000:=by
   rw[Cl];have h1:(n+1)*fact n<=100000:=HF.out;exact Qc (Qs _ hj) h1
  have uk:=lh Cl;clear Cl;by_cases aW:j<n+1
  ·have Is:(j:Int)+1<(l.length:Int):=by have:=xu.out;omega
   have lK:j+1<l.length:=by have:=xu.out;omega
   have rc:=LB.out (j+1) lK;have bX:=hc.c rc;have IX:bF (l.getD (j+1) 0):=WL.out _ (aQ lK);have MH:=lh (pP (w:=wr) (B:=wr.heap.size) (Qi _) IX);rw[<-GM] at MH;have GN:=lh (show ∀ b,(Qa oo vs.length oc).ownBlock=some b->b<wr.heap.size from λb hb=>jR lG.out hb);generalize l.getD (j+1) 0=x at *;clear lG hc rc;go_wp2_with fail;clear bX;rename World=>wo;go_loopw [5,6] (λrv c wr=>∃ k:Nat,k<=n+1/\c=.int .i64 ((k:Int)+1)/\aw wr wo.heap.size rv (ft l j k)/\ai [] wo wr) (λ_ c _=>n+2 - (intOf c).toNat);case atStart=>exact⟨0,Qq _,rfl,MH.out,(ai.refl _ _).alloc _⟩
   case round =>
    obtain⟨k,hk,rfl,aT,hc⟩:=hrel;have bA:=lh aT;have aY:=lh hc;have ji:=lh (HC.out.t hc);obtain⟨ro,rcp,rfl⟩:=aT.shape;clear aT hc;by_cases rI:k<n+1
    ·have hki:(k:Int)+1<(l.length:Int):=by have:=xu.out;omega
     have abd:k+1<l.length:=by have:=xu.out;omega
     have qO:=lh (EV (l:=l) (j:=j) abd);by_cases OY:k=j
     ·subst OY
      rw[if_pos rfl] at qO;obtain⟨m,hm⟩:∃ m,(ft l k k).length=m:=⟨_,rfl⟩;rw[hm] at bA ⊢;go_wp2;go_roundw;case rel=>exact⟨k+1,by omega,by go_num,by rw[qO.out];exact bA.out,aY.out⟩
      case measure=>simp[intOf];omega
     rw[if_neg OY] at qO;have bn:¬ (k:Int)+1=(j:Int)+1:=by omega
     have KN:¬ (k:Int)=(j:Int):=by omega
     have rc2:=LB.out (k+1) abd;have alV:=ji.out.c rc2;have IY:bF (l.getD (k+1) 0):=WL.out _ (aQ abd);generalize l.getD (k+1) 0=y at *;have sd:(ft l j k).length<4294967290:=by have:=J9 (l:=l) j k;omega
     have uD:=lh aY.out.size;generalize ft l j k=L at *;clear rc2;go_wp2_with (at_builtin;refine eN rfl _ _ rfl (B:=wo.heap.size) (v:=.slice ro L.length rcp) rfl rfl bA.out IY uD.out sd rfl ?_;intro v6 w6 r6 c6 f6;have R6:=lh r6;have C6:=lh (aY.out.trans c6 (λj hj=>Qw (by rw[bA.out.aC] at hj;exact (bA.out.low j hj).1)));clear r6 c6 f6);go_roundw;case rel=>exact⟨k+1,by omega,by go_num,by rw[qO.out];exact R6.out,C6.out⟩
     case measure=>simp[intOf];omega
    have e:k=n+1:=by omega
    subst e;have HNO:=lh (show ¬ ((n+1:Nat):Int)+1<(l.length:Int) by have:=xu.out;omega);have gV:=HNO.out;have Yw:=G2 xu.out (show j<=n by omega);have pA:=lh (λm (hm:m∈eZ n (ft l j (n+1)))=>zU Yw hm);have Be:=lh (I' (l:=l) (n+1) (show j+1<l.length by have:=xu.out;omega));have qO:=lh (Iy n l j);rw[<-Au (show l.length=n+1+1 from xu.out)] at qO;have Un:=lh (IH.out (.slice ro (ft l j (n+1)).length rcp) (ft l j (n+1)) wr Yw bA.out.ints);rw[Yw] at Un ⊢;clear rI hk;go_wp2_with fail;refine Un.out.mono ?_;rintro e w4 ⟨mv,us,rfl,Zq,gX⟩;have aoU:=lh (ji.out.t gX);have aqh:=lh (((Ex.out.aL aY.out (by simp) (by simp)).aL gX (by simp) (by simp)));obtain⟨M,hM⟩:∃ M,eZ n (ft l j (n+1))=M:=⟨_,rfl⟩;have Yh:M.length=fact n:=by rw[<-hM,l5]
    rw[hM] at Zq pA qO;have hMp:0<M.length:=by rw[Yh];exact pF n
    have hMb:M.length<=100000:=by rw[Yh];exact Qc (Dh n) HF.out
    have HMS:=lh (show ∀ m∈M,(∀ x∈m,bF x)/\m.length<4294967296 from λm hm=>⟨λx hx=>WL.out x (Be.out x ((pA.out m hm).1 x hx)),by rw[(pA.out m hm).2,Yw];have:=HFN.out;omega⟩);have HMN:=lh (show ∀ m∈M,m.length<=100001 from λm hm=>by rw[(pA.out m hm).2,Yw];have:=HFN.out;omega);have hus:us.length=M.length:=Zq.len;obtain⟨mb,mc,rfl,EN,-⟩:∃ mb mc,mv=.slice (some ⟨mb,0,none⟩) M.length mc/\wr.heap.size<=mb/\True:=by
     rcases Zq.out.2 with ⟨-,h0⟩ | ⟨g,cp,cur,Od,Lg,-⟩
     ·omega
     exact⟨g,cp,by rw[Od,hus],Lg,trivial⟩
    have HMB:=lh (show (Qa oo vs.length oc).ownBlock≠some mb from λq=>by
     have h1:=GN.out mb q;have h2:=aY.out.size;omega)
    have HMO:=lh Zq;have hNV:(j+1)*fact n<=100000:=Qc (Qs _ (show j+1<=n+1 by omega)) HF.out;have HNV:=lh (show (tu n l j).length+M.length<=100000 by rw[CH,Yh];rw[Nat.add_mul] at hNV;omega);have TS:=lh (LB.out 0 (by have:=xu.out;omega));have IX0:bF (l.getD 0 0):=WL.out _ (aQ (by have:=xu.out;omega));obtain⟨bq,hbq⟩:∃ b,wr.heap.size=b:=⟨_,rfl⟩;rw[hbq] at HMO;generalize l.getD 0 0=x0 at *;generalize tu n l j=base at *;clear Zq gX hM Yh hus EN hbq hNV Un pA Be Yw gV bA;go_wp2_with fail;go_loopw [3,8] (λov c wr=>∃ (k:Nat) (vs:List Value),k<=M.length/\c=.int .i64 k/\bt wr w.heap.size ov vs (base++(M.take k).map (x0 :: ·))/\bt wr bq (.slice (some ⟨mb,0,none⟩) M.length mc) us M/\ov.ownBlock≠some mb/\ai [] w wr) (λ_ c _=>M.length - (intOf c).toNat);case atStart=>exact⟨0,vs,Qq _,rfl,by simpa using aqh.out,HMO.out,HMB.out,aoU.out⟩
    case round =>
     obtain⟨k,vs2,hk,rfl,Bc,VK,aaR,bI⟩:=hrel;have Dd:=lh Bc;have aaY:=lh VK;have aem:=lh aaR;have bU:=lh bI;obtain⟨oo2,oc2,rfl⟩:=bR Bc.out;have Sm:vs2.length=base.length+k:=by rw[Bc.len];simp;omega
     have TO:=lh Sm;have auZ:vs2.length<=100000:=by have:=HNV.out;omega
     by_cases UW:k<M.length
     ·have c0:=bI.c TS.out
      rw[Nat.add_zero] at c0;have axU:0<l.length:=by have:=xu.out;omega
      have azi:(0:Int)<(l.length:Int):=by omega
      obtain⟨b5,anG,uo,uc,e5,SU,hints⟩:=(VK.read HMS.out).row UW;have e6:mb=b5/\0=anG:=by simpa using e5
      obtain⟨rfl,rfl⟩:=e6;rw[QF] at SU;have CQ:=lh (show (M.take (k+1)).map (x0 :: ·)=(M.take k).map (x0 :: ·)++[x0 :: M.getD k []] by
       rw[Qb UW,List.map_append];simp[Qd,UW])
      have hmk:=HMN.out _ (show M.getD k []∈M by simp[Qd,UW]);have HMK:=lh (HMS.out _ (show M.getD k []∈M by simp[Qd,UW]));have anJ:=lh hints;generalize M.getD k []=m at *;have HVN:=lh Sm;clear Bc VK aaR hints e5 Sm;go_wp2;have aG:ai [] wr wr.drew:=(ai.refl [] wr).drew;refine al (ai [] wr) [0,1,2,3,5,6,7,8] (Way.line [0,1,2,3,5,6,7,8,4,9,10,11,12] .done) (by kernel_rfl) (by kernel_rfl) ?_;simp only[Way.line]
      repeat (refine aj (v:=?_) rfl (by rfl) (by rfl) (λ_ _ _ h=>h) aG (λw' aB=>?_) ?_;rotate_left;(focus (have fE:=aB.c c0;have fV:=aB.c SU;clear aB;go_simp;try with_reducible rfl));simp only[Qf,Z1,Z2,Z3,Z4,Z5,Z6])
      refine aq rfl (by rfl) (by rfl) (λK hK=>?_);go_simp;have B6:=lh ((pP (w:=wr) (B:=wr.heap.size) (Qi _) IX0).aL (ai.refl [] _).drew (by simp));refine hK.out _ _ (λ_=>aG.alloc _) ?_;clear hK K;try simp only[Qf,Z1,Z2,Z3,Z4,Z5,Z6]
      refine aq rfl (by rfl) (by rfl) (λK hK=>?_);simp only[Qt,Qn,Qo];have ca:ai [] wr (wr.alloc (.cells #[.int .i64 x0] 3)).drew:=((ai.refl [] wr).alloc _).drew;refine iZ (.tmp 55) (.tmp 59) rfl (B:=wr.heap.size) (v:=.slice (some ⟨wr.heap.size,0,none⟩) 1 1) (l:=[x0]) (m:=m) rfl rfl B6.out (anJ.out.fresh ca) ca.size (by simp;omega) λv' w7 r7 c7 f7=>?_;have bH:ai [] wr w7:=ca.trans c7 (λj hj=>Qw (by simp[aC,Qh] at hj;omega));have R7:=lh r7;obtain⟨vo,vc,rfl⟩:=r7.shape;refine hK.out _ _ (λ_=>bH) ?_;clear hK K r7 c7 f7 ca aG;try simp only[Qf,Ql,Qx,Qy]
      have vP:=lh bH;refine aq rfl (by rfl) (by rfl) (λK hK=>?_);go_simp;refine hK.out _ _ (λ_=>bH.alloc _) ?_;clear hK K bH;try simp only[Qf,Z1,Z2,Z3,Z4,Z5,Z6]
      obtain⟨g8,q8,w8,LF,ahS,su,hg8⟩:=VM (Dd.out.aL vP.out (by simp) (by simp)) (Qc bU.out.size vP.out.size) R7.out bU.out.size (OC Dd.out) (by omega) (QI rfl) 48;refine aq rfl (by rfl) (by rfl) (λK hK=>?_);simp only[Qt,Qn,Qo];refine mZ (.tmp 51) (.tmp 61) 48 rfl rfl rfl LF ?_;have aql:=lh ahS;have aoM:=lh ((aaY.out.aL vP.out (by simp) (by simp)).aL su (λb hb q=>aem.out (by
       have e:mb=b:=by simpa[Qh] using hb
       rw[e];simpa using q)) (λi b hi hb q=>by
       have h1:=gB ((aaY.out.aL vP.out (by simp) (by simp)).rows i hi) (Dd.out.aL vP.out (by simp) (by simp)).out (by decide);rw[hb] at h1;rcases h1 with r | r
       ·cases r
       exact r (by simpa using q:(Qa oo2 vs2.length oc2).ownBlock=some b).symm))
      have HG8:=lh (show (Qa (some ⟨g8,0,none⟩) (vs2.length+1) q8).ownBlock≠some mb from λq=>by
       have e:g8=mb:=by simpa[Qh] using q
       subst e;rcases hg8 with r | r
       ·exact aem.out r
       have h1:=jR aaY.out.out (b:=g8) rfl;have h2:=vP.out.size;omega)
      have DG:=lh ((bU.out.t vP.out).trans su (λj hj=>Qw ((Dd.out.out.lt j (by simpa using hj)).1)));refine hK.out _ _ (λh=>absurd h (Qz.1 (by kernel_rfl))) ?_;clear hK K LF ahS su hg8;try simp only[Qf,Ql,Qx,Qy]
      refine aq rfl (by rfl) (by rfl) (λK hK=>?_);go_simp;refine hK.out _ _ (λh=>absurd h (Qz.1 (by kernel_rfl))) ?_;clear hK K;try simp only[Qf,Z1,Z2,Z3,Z4,Z5,Z6]
      refine ar ?_;clear c0 SU;go_wp2;go_roundw;case rel=>exact⟨k+1,_,by omega,by go_num,by rw[CQ.out,<-List.append_assoc];exact aql.out,aoM.out,HG8.out,DG.out⟩
      case measure=>simp[intOf];omega
     have e:k=M.length:=by omega
     subst e;rw[List.take_length] at Dd;clear UW hk Bc VK aaR bI;go_wp2;go_roundw;case rel=>exact⟨j+1,vs2,by omega,by go_num,by rw[qO.out];exact Dd.out,bU.out⟩
     case measure=>simp[intOf];omega
  have e:j=n+1:=by omega
  subst e;have gV:¬ (n:Int)+1+1<(l.length:Int):=by have:=xu.out;omega
  have sm:=lh (My n l);clear aW hj lG hc;go_wp2;go_ret;exact⟨_,rfl,⟨vs,by rw[<-sm.out];exact Ex.out⟩,HC.out⟩
theorem zG:∀ (n:Nat) (v:Value) (l:List Int) (w:World),l.length=n+1->fact n<=100000->aI w v l ->
  Calls Tryz.prog 72 #[v] w λe w'=>∃ ov vs,e=.returned ov/\bt w' w.heap.size ov vs (eZ n l)/\ai [] w w'
 | 0,v,l,w,hl,_,h=>xh v l w (by omega) h
 | n+1,v,l,w,hl,hf,h=>Fy n (λv l w hl h=>zG n v l w hl (Qc (Dh n) hf) h) v l w hl hf h
end Go.Proofs.YtoiflofhcmjpoaaGreat
-- READS ONLY
namespace Go.Proofs.YtoiflofhcmjpoaaGreat
open Plain
open Go.RowKit Go.Maps
variable {w w':World} {B B' n g k:Nat} {ov v mv:Value} {ll M:List (List Int)} {xs ms:List Value} {e:TypeId} {LL:List (List (List Int))}
namespace Plain
variable {g:Gr} {b:Pt} {i:Nat}
def dF:List Nat->Nat
 | []=>1
 | x :: l=>x*dF l
theorem rP (x:Nat):∀ l:List Nat,dF (l++[x])=dF l*x
 | []=>by simp[dF]
 | y :: l=>by
  show y*dF (l++[x])=y*dF l*x;rw[rP x l,QD]
theorem Cb:∀ l:List Nat,dF l.reverse=dF l
 | []=>rfl
 | y :: l=>by
  rw[List.reverse_cons,rP,Cb l,QG];rfl
theorem Fv:∀ R:List (List (List Int)),vN R=dF (R.map QH)
 | []=>rfl
 | L :: R=>by
  show L.length*vN R=L.length*dF (R.map QH);rw[Fv R]
theorem vB:∀ {l:List Nat},(∀ x∈l,0<x)->0<dF l
 | [],_=>by decide
 | x :: l,h=>Nat.mul_pos (h x (by simp)) (vB λy hy=>h y (List.mem_cons_of_mem _ hy))
def fQ (g:Gr) (b:Pt):List Nat:=b.v.map λv=>fact ((aE g b v).length - 1)
theorem pV (g:Gr) (b:Pt):(fQ g b).length=b.v.length:=by simp[fQ]
theorem Dq (hi:i<b.v.length):(fQ g b).getD i 0=fact ((aE g b (b.v.getD i 0)).length - 1):=by
 grind [fQ]
theorem BB (hi:i<b.v.length):dF ((fQ g b).take (i+1))=dF ((fQ g b).take i)*fact ((aE g b (b.v.getD i 0)).length - 1):=by
 have sS:i<(fQ g b).length:=by rw[pV];exact hi
 rw[Qb sS,rP];congr 1;rw[<-Dq hi]
 grind
theorem nB (g:Gr) (b:Pt):ou g b=dF (fQ g b):=by
 unfold ou;rw[Fv,List.map_reverse,Cb];congr 1;unfold fQ;rw[List.map_map];exact List.map_congr_left λv _=>sr _
def je (most P:Nat):Nat:=min P (most+1)
theorem D9 (most P:Nat):je most P<=most+1:=Nat.min_le_right _ _
theorem T4 {most P k:Nat} (hk:1<=k):je most (P*k)=if most<je most P*k then most+1 else je most P*k:=by
 unfold je;by_cases h:P<=most+1
 ·rw[Nat.min_eq_left h]
  by_cases q:most<P*k
  ·rw[if_pos q];omega
  rw[if_neg q];omega
 have h1:min P (most+1)=most+1:=by omega
 rw[h1];have h2:most+1<=(most+1)*k:=Qg _ hk;have h3:P<=P*k:=Qg _ hk;rw[if_pos (by omega)];omega
end Plain
theorem Gd (vg vp:Value) (g:Gr) (p:Pt) (most:Nat) (w:World) (mE:p.e.length<=100000) (Dl:p.v.length<=100000) (Zq:most<=100000) (hr:p.err g=0) (hg:cA w vg g) (hp:dt w vp p) :
  Calls Tryz.prog 33 #[vg,vp,.int .i64 most] w λe w'=>e=.returned (.int .i64 (je most (dF (fQ g p))))/\ai [] w w':=by
 have uu:=lh hr;clear hr;obtain⟨eo,cap,ao,ac,bo,bc,rfl,rfl,HG,HP,hm,uJ,oJ,pU,nG,xL,uD,aY,bm⟩:=eF hg hp;clear hg hp;obtain⟨x0,x1,y0,y1,bs⟩:=bm.out _ (ai.refl _ _);go_enter Tryz.func33,Tryz.ntmps33;go_wp2_with fail;obtain⟨w1,gu⟩:∃ w1,((w.alloc (.cells #[.int .i64 g.n,.slice eo g.e.length cap] 24)).alloc (.cells #[.slice ao p.v.length ac,.slice bo p.e.length bc] 27))=w1:=⟨_,rfl⟩;rw[gu] at aY bm ⊢;clear gu x0 x1 y0 y1 bs;go_loopw [7,8,9] (λc7 c _ wr=>∃ i:Nat,i<=p.v.length/\c=.int .i64 i/\c7=.int .i64 (je most (dF ((fQ g p).take i)):Nat)/\ai [] w1 wr) (λ_ c _ _=>p.v.length - (intOf c).toNat);case atStart=>exact⟨0,Qq _,rfl,by rw[List.take_zero];show _=QE .i64 ((je most 1:Nat):Int);rw[show je most 1=1 by grind [je]];rfl,ai.refl _ _⟩
 case round =>
  obtain⟨i,hi,rfl,rfl,hc⟩:=hrel;have HC:=lh hc;obtain⟨x0,x1,y0,y1,bs⟩:=bm.out _ hc;clear hc;by_cases aW:i<p.v.length
  ·obtain⟨ab,lH,rfl,KX⟩:=pU.out (by grind)
   have HVC:=lh (KX i aW);have qO:=lh (BB (g:=g) aW);generalize dF ((fQ g p).take i)=P at *;generalize p.v.getD i 0=v at *;have DY:=lh (show (aE g p v).length<=200000 by
    grind [ct,aE])
   have lK:i<p.v.length:=aW;clear KX;go_wp2_with fail;clear x0 x1 y0 y1 bs;go_loopw [7,9] (λc7 c wr=>∃ k:Nat,2<=k/\(k=2\/k<=(aE g p v).length)/\c=.int .i64 k/\c7=.int .i64 (je most (P*fact (k - 1)):Nat)/\ai [] w1 wr) (λ_ c _=>(aE g p v).length - (intOf c).toNat);case atStart=>exact⟨2,Qi _,QI rfl,rfl,by grind [fact],HC.out⟩
   case round =>
    obtain⟨k,OV,hkd,rfl,rfl,bI⟩:=hrel;have bU:=lh bI;obtain⟨x0,x1,y0,y1,bs⟩:=bm.out _ bI;have vc:=(aY.out.tr bI).bO HVC.out;clear bI;have HKD:=lh hkd;clear hkd;have hkb:k<=200002:=by have:=HKD.out;have:=DY.out;omega
    have Ij:je most (P*fact (k - 1))<=100001:=by grind [D9]
    have AD:=lh (T4 (most:=most) (P:=P*fact (k - 1)) (k:=k) (by omega));have Pw:=lh (show P*fact (k - 1)*k=P*fact k by
     obtain⟨k',rfl⟩:∃ k',k=k'+1:=⟨k - 1,by omega⟩;rw[QD,Qk];congr 1;exact QG _ _)
    have HMB:=lh (show je most (P*fact (k - 1))*k<=100001*200002 from Nat.mul_le_mul Ij hkb);rw[Pw.out] at AD;clear Pw;go_wp2;have aG:ai [] wr wr.drew:=(ai.refl [] wr).drew;refine al (ai [] wr) [0,1,2,3,4,5,6,7,9,10] (Way.line [0,1,2,3,4,5,6,7,8,9,10] .done) (by kernel_rfl) (by kernel_rfl) ?_;simp only[Way.line]
    repeat (refine aj (v:=?_) rfl (by rfl) (by rfl) (λ_ _ _ h=>h) aG (λw' aB=>?_) ?_;rotate_left;(focus (have fE:=aB.c x0;have fV:=aB.c x1;have kD:=aB.c y0;have tq:=aB.c y1;have MD:=aB.c vc;clear aB;go_simp;try with_reducible rfl));simp only[Qf,Z1,Z2,Z3,Z4,Z5,Z6])
    refine aq rfl (by rfl) (by rfl) (λK hK=>?_);go_simp;refine (ng _ _ g p v _ (by omega) uu.out (HG.out.fresh (aY.out.tr (bU.out.tr aG))) (HP.out.fresh (aY.out.tr (bU.out.tr aG)))).mono ?_;rintro e w3 ⟨dv,rfl,Pj,eV⟩;have bH:=aG.t eV;clear aG eV;have aG:=bH;clear bH;refine hK.out _ _ (λ_=>aG) ?_;clear hK K;try simp only[Qf,Z1,Z2,Z3,Z4,Z5,Z6]
    obtain⟨do_,dc,rfl⟩:=Pj.shape
    repeat (refine aj (v:=?_) rfl (by rfl) (by rfl) (λ_ _ _ h=>h) aG (λw' aB=>?_) ?_;rotate_left;(focus (have fE:=aB.c x0;clear aB;go_simp;try with_reducible rfl));simp only[Qf,Z1,Z2,Z3,Z4,Z5,Z6])
    refine ar ?_;have b8:=lh (bU.out.tr aG);have HKF:=lh (show ¬ k<(aE g p v).length->fact (k - 1)=fact ((aE g p v).length - 1) from λq=>by
     have:=HKD.out;rcases (show k=(aE g p v).length\/(k=2/\((aE g p v).length=0\/(aE g p v).length=1)) by omega) with r | ⟨r,r2⟩
     ·rw[r]
     rw[r];rcases r2 with r2 | r2 <;> (rw[r2];rfl))
    obtain⟨c,qw⟩:∃ c,je most (P*fact (k - 1))=c:=⟨_,rfl⟩;rw[qw] at Ij AD HMB ⊢;have YB:=lh qw;obtain⟨D,hD⟩:∃ D,(aE g p v).length=D:=⟨_,rfl⟩;have OE:=lh hD;rw[hD] at HKD DY qO HKF ⊢;clear Pj aG qw hD x0 x1 y0 y1 vc;by_cases rI:k<D
    ·by_cases hov:most<c*k
     ·rw[if_pos hov] at AD
      have VT:(most:Int)<(c:Int)*(k:Int):=by grind
      have Wm:c*k<=30000000000:=by have:=HMB.out;omega
      go_wp2;go_roundw;case rel=>exact⟨k+1,by omega,Qw (by have:=OE.out;omega),by go_num,by rw[Qk,AD.out];go_num,b8.out⟩
      case measure=>simp[intOf];have:=OE.out;omega
     rw[if_neg hov] at AD;have VT:¬ (most:Int)<(c:Int)*(k:Int):=by grind
     have Wm:c*k<=30000000000:=by grind
     go_wp2;go_roundw;case rel=>exact⟨k+1,by omega,Qw (by have:=OE.out;omega),by go_num,by rw[Qk,AD.out];go_num,b8.out⟩
     case measure=>simp[intOf];have:=OE.out;omega
    have NH:=lh (show c=je most (P*fact (D - 1)) by rw[<-HKF.out rI,YB.out]);go_wp2;go_roundw;case rel=>exact⟨i+1,by omega,by go_num,by rw[qO.out,<-NH.out],b8.out⟩
    case measure=>simp[intOf];omega
  have e:i=p.v.length:=by omega
  subst e;have HAL:=lh (show (fQ g p).take p.v.length=fQ g p from Qm (by grind [pV]));rw[HAL.out];have Ij:je most (dF (fQ g p))<=100001:=by grind [D9]
  clear aW hi;go_wp2;go_ret;exact⟨rfl,aY.out.tr HC.out⟩
structure eS (w:World) (B:Nat) (ov:Value) (vs:List Value) (ll:List (List Int)):Prop where
 out:w.ownsRow B 25 1 ov vs.length vs
 len:vs.length=ll.length
 rows:∀ k,k<vs.length->aw w B (vs.getD k undef) (ll.getD k [])
theorem bt.toK {vs:List Value} (h:bt w B ov vs ll) (hi:∀ l∈ll,(∀ x∈l,bF x)/\l.length<4294967296):eS w B ov vs ll :=
 ⟨h.out,h.len,λk hk=>⟨h.rows k hk,hi _ (by have:=h.len;simp[Qd,show k<ll.length by omega])⟩⟩
theorem eS.ON {vs:List Value} {own:List Nat} (h:eS w B ov vs ll) (hc:ai own w w') (h1:∀ b,ov.ownBlock=some b->b ∉ own) (h2:∀ j∈own,¬ bL w j 3):eS w' B ov vs ll :=
 ⟨bG h.out hc h1,h.len,λk hk=>(h.rows k hk).aL hc (λb hb q=>h2 b q ((h.rows k hk).cO (by simpa using hb)))⟩
theorem eS.fresh {vs:List Value} (h:eS w B ov vs ll) (hc:ai [] w w'):eS w' B ov vs ll:=h.ON hc (by simp) (by simp)
theorem eS.base {vs:List Value} (h:eS w B' ov vs ll) (hB:B<=B'):eS w B ov vs ll:=⟨kK h.out hB,h.len,λk hk=>(h.rows k hk).base hB⟩
theorem IB (ho:w.ownsRow B e 1 v n xs):rE v:=by
 rcases ho.2 with ⟨rfl,_⟩ | ⟨g,cap,cur,rfl,-,-,hn,hc,-,-⟩
 ·exact⟨none,0,0,rfl,by decide,by decide⟩
 exact⟨_,_,_,rfl,hn,by unfold maxLen at hc;omega⟩
theorem eS.read {vs:List Value} (h:eS w B ov vs ll):fY w ov ll:=by
 have hlen:=h.len;rcases h.out.2 with ⟨rfl,h0⟩ | ⟨g,cap,cur,rfl,-,-,hn,hc,-,-⟩
 ·have:ll=[]:=List.length_eq_zero_iff.1 (by omega)
  subst this;exact⟨none,0,rfl,by decide,λi hi=>absurd hi (by simp)⟩
 refine⟨_,cap,by rw[hlen],by unfold maxLen at hc;omega,λi sS=>?_⟩;have hiv:i<vs.length:=by omega
 have aT:=h.rows i hiv;have aS:=h.out.cellAt i (by omega);refine⟨g,0,vs.getD i undef,rfl,?_,IB aT.1,aT.ints⟩
 grind
theorem eS.made {fb:Nat} (h:w.ownsRow B 25 1 (.slice (some ⟨fb,0,none⟩) n n) n (madeCells (Qa none 0 0).cells (n*1)).toList):eS w B (.slice (some ⟨fb,0,none⟩) n n) (Qr n (.slice none 0 0)) (Qr n []):=by
 have e1:(madeCells (Qa none 0 0).cells (n*1)).toList=Qr n (.slice none 0 0):=by
  show (madeCells #[Qa none 0 0] (n*1)).toList=_;rw[Nat.mul_one,toList_madeCells_one]
 rw[e1] at h;refine⟨by grind,by simp,λk hk=>?_⟩
 grind [da]
theorem eS.shape {vs:List Value} (h:eS w B ov vs ll):∃ ao c,ov=.slice ao ll.length c:=by
 obtain⟨a,c,e⟩:=bR h.out;exact⟨a,c,by rw[e,h.len]⟩
theorem eS.set {c:Nat} {vs:List Value} {l:List Int} (h:eS w B (.slice (some ⟨g,0,none⟩) n c) vs ll) (hk:k<vs.length) (hv:aw w B v l):eS (w.setCell ⟨g,k,none⟩ v) B (.slice (some ⟨g,0,none⟩) n c) (vs.set k v) (ll.set k l):=by
 obtain⟨_,_,e0⟩:=bR h.out;obtain rfl:n=vs.length:=by simp only[Qa.injEq] at e0;exact e0.2.1
 have hg:=bM h.out (b:=g) rfl;have keep:∀ {u:Value} {m:List Int},aw w B u m->aw (w.setCell ⟨g,k,none⟩ v) B u m:=λhu=>hu.aL ((ai.refl [g] w).setCell (QI (by simp)) _) (λb hb q=>by
  rw[Qj] at q;exact (hu.cO (by grind)).ne hg (by decide) q)
 refine⟨?_,by rw[Qp,Qp,h.len],λj hj=>?_⟩
 ·have:=(h.out.stored k v).1
  grind
 rw[Qp] at hj;have hl:=h.len;by_cases e:j=k
 ·subst e
  rw[show (vs.set j v).getD j undef=v by simp[Qd,hj],show (ll.set j l).getD j []=l by simp[Qd,show j<ll.length by omega]];exact keep hv
 rw[show (vs.set k v).getD j undef=vs.getD j undef by simp[Qd,Qu (Ne.symm e)],show (ll.set k l).getD j []=ll.getD j [] by simp[Qd,Qu (Ne.symm e)]];exact keep (h.rows j hj)
theorem eS.cell {c:Nat} {vs:List Value} (h:eS w B (.slice (some ⟨g,0,none⟩) n c) vs ll) (hk:k<vs.length):w.cell? ⟨g,k,none⟩=some (vs.getD k undef):=by
 obtain⟨_,_,e0⟩:=bR h.out;simp only[Qa.injEq] at e0;obtain⟨-,rfl,-⟩:=e0;have:=h.out.cellAt k (by omega)
 grind
theorem NC {m c sz:Nat} (h:w.ownsRow B e sz (.slice (some ⟨g,0,none⟩) n c) m xs) (i:Nat):w.frozen? ⟨g,i,none⟩=false:=by
 rcases h.2 with ⟨e,h0⟩ | ⟨g',cap,cur,e,-,hh,-⟩
 ·cases e
 simp only[Qa.injEq,Option.some.injEq,Addr.mk.injEq] at e;obtain⟨⟨rfl,-⟩,-⟩:=e;simp[World.frozen?,hh]
structure dJ (w:World) (B:Nat) (ov:Value) (ms:List Value) (LL:List (List (List Int))):Prop where
 out:w.ownsRow B 48 1 ov ms.length ms
 len:ms.length=LL.length
 rows:∀ k,k<ms.length->∃ vs,eS w B (ms.getD k undef) vs (LL.getD k [])
theorem Ud:qg 44 48 (.slice none 0 0) 1 24:=⟨Tryz.underlying44,by kernel_rfl,rfl,by decide,by decide⟩
theorem dJ.nil (w:World) (B:Nat):dJ w B (.slice none 0 0) [] []:=⟨World.ownsRow_nil _ _ _ _,rfl,by simp⟩
theorem dJ.ON {own:List Nat} (h:dJ w B ov ms LL) (hc:ai own w w') (h1:∀ b,ov.ownBlock=some b->b ∉ own) (h2:∀ j∈own,¬ bL w j 3/\¬ bL w j 25):dJ w' B ov ms LL :=
 ⟨bG h.out hc h1,h.len,λk hk=>by
  obtain⟨vs,hv⟩:=h.rows k hk;exact⟨vs,hv.ON hc (λb hb q=>(h2 b q).2 (bM hv.out hb)) λj hj=>(h2 j hj).1⟩⟩
theorem dJ.fresh (h:dJ w B ov ms LL) (hc:ai [] w w'):dJ w' B ov ms LL:=h.ON hc (by simp) (by simp)
theorem dJ.base (h:dJ w B' ov ms LL) (hB:B<=B'):dJ w B ov ms LL:=⟨kK h.out hB,h.len,λk hk=>by
 obtain⟨vs,hv⟩:=h.rows k hk;exact⟨vs,hv.base hB⟩⟩
theorem dJ.shape (h:dJ w B ov ms LL):∃ ao c,ov=.slice ao LL.length c:=by
 obtain⟨a,c,e⟩:=bR h.out;exact⟨a,c,by rw[e,h.len]⟩
theorem dJ.add {cap:Nat} {vs:List Value} (h:dJ w B ov ms LL) (hm:eS w B mv vs M)
  (hn:w'.ownsRow B 48 1 (.slice (some ⟨g,0,none⟩) (ms.length+1) cap) (ms.length+1) (ms++[mv])) (hc:ai ov.ownBlock.toList w w'):dJ w' B (.slice (some ⟨g,0,none⟩) (ms.length+1) cap) (ms++[mv]) (LL++[M]):=by
 have hl:=h.len;have keep:∀ {u:Value} {us:List Value} {m:List (List Int)},eS w B u us m->eS w' B u us m:=λhu=>hu.ON hc (λb hb q=>by
  exact (bM hu.out hb).ne (bM h.out (b:=b) (by grind)) (by decide) rfl) (λj hj q=>(bM h.out (b:=j) (by simpa using hj)).ne q (by decide) rfl)
 refine⟨by grind,by simp[hl],λk hk=>?_⟩;by_cases e:k<ms.length
 ·rw[show (ms++[mv]).getD k undef=ms.getD k undef by grind,show (LL++[M]).getD k []=LL.getD k [] by simp[Qd,List.getElem?_append_left (show k<LL.length by omega)]]
  obtain⟨us,hu⟩:=h.rows k e
  grind
 all_goals grind
theorem dJ.cell {c:Nat} (h:dJ w B (.slice (some ⟨g,0,none⟩) n c) ms LL) (hk:k<ms.length):w.cell? ⟨g,k,none⟩=some (ms.getD k undef):=by
 obtain⟨_,_,e0⟩:=bR h.out;simp only[Qa.injEq] at e0;obtain⟨-,rfl,-⟩:=e0;have:=h.out.cellAt k (by omega)
 grind
theorem EI {w0:World} {vs:List Value} (h:dJ w0 B ov ms LL) (hB:B<=w0.heap.size) (hm:eS w0 B mv vs M) (hn:ms.length<68719476736)
  (hw:w=w0.alloc (.cells #[mv] 48)\/w=(w0.alloc (.cells #[mv] 48)).drew) (ty:TypeId) :
  ∃ g cap w',(Builtin.append_ #[44,44] ty #[ov,.slice (some ⟨w0.heap.size,0,none⟩) 1 1]).run Tryz.prog w=.ok (.slice (some ⟨g,0,none⟩) (ms.length+1) cap) w' /\
   dJ w' B (.slice (some ⟨g,0,none⟩) (ms.length+1) cap) (ms++[mv]) (LL++[M])/\ai ov.ownBlock.toList w0 w'/\(ov.ownBlock=some g\/w0.heap.size<=g):=by
 obtain⟨va,vc,rfl⟩:=hm.shape;obtain⟨g,cap,w',hr,r2,r3,r4⟩:=qy Ud h.out hB (cs:=#[.slice va M.length vc]) rfl (zi _ _ _) hn hw ty;exact⟨g,cap,w',hr,h.add hm r2 r3,r3,r4⟩
