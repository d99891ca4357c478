/- the document's answer for package walk: the contract of Spread, from one iq. Conditions: a right part that lies in memory and reads so; a iq of it. -/
import Derived.Test.YtoiflofhcmjpoaaGreatF9Leav
import Derived.Deep.DeepCutAuto
set_option maxRecDepth 100000
set_option maxHeartbeats 4000000
open Go.Act renaming put→Qa
open List renaming mem_append→Qb,mem_singleton→Qc,getD→Qk
open Go.Value renaming ownBlock→Qd,slice→Qm,int→Qn
open Classical renaming byContradiction→Qe
open Int renaming toNat_natCast→Qf
open Bool renaming not_eq_true'→Qg,eq_iff_iff→Qh
open Or renaming inl→Qi,inr→Qj
open Nat renaming zero_le→Ql
namespace Go.Proofs.YtoiflofhcmjpoaaGreat
open Plain
open Go.RowKit Go.Maps
namespace Plain
variable {g:Gr} {p:Pt} {but x a:Int} {M:List Int} {i j k:Nat}
theorem zD:∀ {l m:List Int},l.Nodup->(∀ x∈l,x∈m)->l.length<=m.length
 | [],_,_,_=>Ql _
 | x :: l,m,hn,hs=>by
  rw[List.nodup_cons] at hn;have hx:=hs x (by simp);have:=zD (l:=l) (m:=m.erase x) hn.2 (λy hy=>by
   refine (List.mem_erase_of_ne (λe=>hn.1 (by rw[<-e];exact hy))).2 (hs y (by simp[hy])))
  rw[List.length_erase_of_mem hx] at this;have:=List.length_pos_of_mem hx;simp;omega
structure Met (g:Gr) (p:Pt) (but a:Int) (M:List Int):Prop where
 base:a∈M
 J4:∀ u∈M,bS g p but a u
 PG:∀ u∈M,u∈p.v
 nodup:M.Nodup
def Seen (g:Gr) (p:Pt) (but:Int) (M:List Int) (u:Int) (t:Nat):Prop :=
 ((g.at (p.e.getD t 0)).1=u->(g.at (p.e.getD t 0)).2=but\/(g.at (p.e.getD t 0)).2∈M)/\((g.at (p.e.getD t 0)).2=u->(g.at (p.e.getD t 0)).1=but\/(g.at (p.e.getD t 0)).1∈M)
theorem Seen.more {u:Int} {t:Nat} (h:Seen g p but M u t):Seen g p but (M++[x]) u t :=
 ⟨λe=>(h.1 e).imp id (λq=>Qb.2 (Qi q)),λe=>(h.2 e).imp id (λq=>Qb.2 (Qi q))⟩
def DR (g:Gr) (p:Pt) (but a:Int) (M:List Int) (i:Nat):Prop:=Met g p but a M/\i<=M.length/\∀ j,j<i->∀ t,t<p.e.length->Seen g p but M (M.getD j 0) t
def KP (g:Gr) (p:Pt) (but a:Int) (M:List Int) (i k:Nat):Prop:=Met g p but a M/\i<M.length/\(∀ j,j<i->∀ t,t<p.e.length->Seen g p but M (M.getD j 0) t)/\∀ t,t<k->Seen g p but M (M.getD i 0) t
theorem DR.start (ha:a∈p.v):DR g p but a [a] 0 :=
 ⟨⟨by simp,λu hu=>by simp at hu;subst hu;exact .here,λu hu=>by simp at hu;subst hu;exact ha,by simp⟩,by simp,by simp⟩
theorem DR.inner (h:DR g p but a M i) (hi:i<M.length):KP g p but a M i 0:=⟨h.1,hi,h.2.2,by simp⟩
theorem KP.outer (h:KP g p but a M i p.e.length):DR g p but a M (i+1) :=
 ⟨h.1,h.2.1,λj hj=>by
  by_cases e:j=i
  ·subst e;exact h.2.2.2
  exact h.2.2.1 j (by omega)⟩
theorem qH (hj:j<M.length):(M++[x]).getD j 0=M.getD j 0:=by simp[Qk,List.getElem?_append_left hj]
theorem KP.add (h:KP g p but a M i k) (hx:x ∉ M) (hv:x∈p.v) (hn:om g p (M.getD i 0) x) (hb:x≠but):KP g p but a (M++[x]) i k:=by
 obtain⟨h1,h2,h3,h4⟩:=h;have UQ:M.getD i 0∈M:=by simp[Qk,h2]
 refine⟨⟨by simp[h1.base],λu hu=>?_,λu hu=>?_,?_⟩,by simp;omega,λj hj t ht=>?_,λt ht=>?_⟩
 ·rcases Qb.1 hu with q | q
  ·exact h1.J4 u q
  simp at q;subst q;exact (h1.J4 _ UQ).step hn hb
 ·rcases Qb.1 hu with q | q
  ·exact h1.PG u q
  simp at q;subst q;exact hv
 ·rw[List.nodup_append]
  exact⟨h1.nodup,by simp,λu hu z hz=>by simp at hz;subst hz;rintro rfl;exact hx hu⟩
 ·rw[qH (by omega)];exact (h3 j hj t ht).more
 rw[qH h2];exact (h4 t ht).more
theorem KP.next (h:KP g p but a M i k) (hs:Seen g p but M (M.getD i 0) k):KP g p but a M i (k+1) :=
 ⟨h.1,h.2.1,h.2.2.1,λt ht=>by
  by_cases e:t=k
  ·subst e;exact hs
  exact h.2.2.2 t (by omega)⟩
theorem DR.all (h:DR g p but a M M.length) (u:Int):u∈M↔bS g p but a u:=by
 refine RZ h.1.base h.1.J4 (λu hu w hn hs=>?_) u;obtain⟨j,hj,rfl⟩:=cr hu;obtain⟨e,he,wO⟩:=hn;obtain⟨t,ht,rfl⟩:=cr he;have:=h.2.2 j hj t ht;rcases wO with q | q
 ·have:=this.1 (by rw[q])
  rw[q] at this;exact this.resolve_left hs
 have:=this.2 (by rw[q]);rw[q] at this;exact this.resolve_left hs
theorem Met.len (h:Met g p but a M):M.length<=p.v.length:=zD h.nodup h.PG
end Plain
theorem kV (vg vp vf:Value) (g:Gr) (p:Pt) (a but:Int) (w:World) (hV:p.v.length<=1000000) (hE:p.e.length<=1000000) (hr:p.err g=0) (ha:a∈p.v) (hg:cA w vg g) (hp:dt w vp p) (hf:aI w vf [a]) :
  Calls Tryz.prog 87 #[vg,vp,vf,.int .i64 but] w λe w'=>∃ v' M,e=.returned v'/\aw w' w.heap.size v' M/\(∀ u,u∈M↔bS g p but a u)/\M.Nodup/\ai [] w w':=by
 have sJ:=lh (Pt.aF hr).2.2.1;have ni:=lh (Pt.ax hr);have fB:=lh (Gr.aF (Pt.aF hr).1);have HF:=lh hf;obtain⟨fo,fc,rfl,hfs,-,-⟩:=hf;obtain⟨eo,cap,rfl,-,hm,fx,aS⟩:=hg;obtain⟨v1,v2,rfl,hv,he⟩:=hp;obtain⟨ao,ac,rfl,-,-,-⟩:=hv;obtain⟨bo,bc,rfl,xW,oJ,gh⟩:=he;have oe:=lh aS;have nG:=lh gh;have iL:=lh fx;obtain⟨iz,gY,dD⟩:=iW w #[.int .i64 g.n,.slice eo g.e.length cap] #[.slice ao p.v.length ac,.slice bo p.e.length bc] 24 27;have X1:=lh ((cell_of_row _ _ 1 _ _ _ iz).trans (show _=some (Qm eo g.e.length cap) from rfl));have Y1:=lh ((cell_of_row _ _ 1 _ _ _ gY).trans (show _=some (Qm bo p.e.length bc) from rfl));have aY:=lh dD;have AD:=lh (DR.start (g:=g) (but:=but) ha);clear aS gh fx hr xW iz gY dD hfs ha;go_enter Tryz.func87,Tryz.ntmps87;generalize gu:((w.alloc (.cells #[.int .i64 g.n,.slice eo g.e.length cap] 24)).alloc (.cells #[.slice ao p.v.length ac,.slice bo p.e.length bc] 27))=w1 at *;have MH:Hid (aw w1 w1.heap.size (.slice none 0 0) []):=⟨World.ownsRow_nil _ _ _ _,by simp,by simp⟩;have Pp:=lh (HF.out.fresh aY.out);have vG:=lh gu;clear gu;go_wp2_with (at_builtin;rw[vG.out];refine cH rfl _ _ rfl (B:=w1.heap.size) rfl rfl MH.out Pp.out (Nat.le_refl _) (by simp) ?_;intro vv w2 r2 c2 f2;have R2:=lh r2;have C2:=lh c2;clear r2 c2 f2);have bU:=lh (show ai [] w1 w2 from C2.out);have Zv:=lh aY.out.size;clear C2 MH HF Pp vG;generalize UZ:w.heap.size=gb at *;generalize tO:gb+1=pb at *;have UY:=lh UZ;clear UZ tO;obtain⟨B,hB⟩:∃ B,w1.heap.size=B:=⟨_,rfl⟩;rw[hB] at R2;have HB:=lh hB;clear hB;go_loopw [9,10] (λc9 c10 wr=>∃ (M:List Int) (i:Nat),c10=.int .i64 i/\aw wr B c9 M/\ai [] w1 wr/\Hid (DR g p but a M i)) (λ_ c _=>p.v.length+1 - (intOf c).toNat);case atStart=>exact⟨[a],0,rfl,by simpa using R2.out,bU.out,AD⟩
 case round =>
  obtain⟨M,i,rfl,aT,hc,qU⟩:=hrel;obtain⟨mo,mc,e9⟩:=aT.shape;subst e9;have Yh:=qU.out.1.len;have hiM:=qU.out.2.1;have bA:=lh aT;have HC:=lh hc;clear aT;by_cases aW:i<M.length
  ·have FY:=lh (qU.out.inner aW)
   clear qU;go_wp2;go_loopw [9,11] (λc9 c11 wr=>∃ (M:List Int) (k:Nat),k<=p.e.length/\c11=.int .i64 k/\aw wr B c9 M/\ai [] w1 wr/\Hid (KP g p but a M i k)) (λ_ c _=>p.e.length - (intOf c).toNat);case atStart=>exact⟨M,0,Ql _,rfl,bA.out,HC.out,FY⟩
   case round =>
    obtain⟨N,k,hk,rfl,aT,bI,dE⟩:=hrel;obtain⟨no,nc,e9⟩:=aT.shape;subst e9;have hNL:=dE.out.1.len;have hiN:=dE.out.2.1;have oE:=lh aT;have HCC:=lh bI;have y1:=bI.bO Y1.out;by_cases nn:k<p.e.length
    ·obtain⟨gr,gV,xK⟩:=aT.some (by omega)
     subst gV;have cm:=xK i hiN;obtain⟨bb,eO,rfl,oG⟩:=nG.out (by intro e;rw[e] at nn;simp at nn);have ce:=bI.bO (aY.out.bO (oG k nn));have AF:=cG sJ.out nn;obtain⟨ei,mN⟩:∃ ei:Nat,p.e.getD k 0=(ei:Int):=⟨(p.e.getD k 0).toNat,by omega⟩;rw[mN] at ce AF;have xl:ei<g.e.length:=by omega
     have wE:g.e.length<4294967296:=by have:=fB.out.2.2.1;have:=fB.out.1;omega
     obtain⟨eb,cR,rfl,fs,dD⟩:=oe.out ei xl;have c0:=bI.bO (aY.out.bO fs);have c1:=bI.bO (aY.out.bO dD);have x1:=bI.bO X1.out;have wO:(ei:Int)∈p.e:=by rw[<-mN];simp[Qk,nn]
     have dp:=ni.out.ends _ wO;have Xk:=lh (show g.at (p.e.getD k 0)=g.ends ei by rw[mN];unfold Gr.at;rw[Qf]);have HNR:=lh (show om g p (g.ends ei).1 (g.ends ei).2 from⟨ei,wO,Qi (by unfold Gr.at;rw[Qf])⟩);have SP:(g.ends ei).1∈p.v/\(g.ends ei).2∈p.v:=by have:=dp;unfold Gr.at at this;rw[Qf] at this;exact this
     have HEV:=lh SP;have X2:=lh (show ∀ M' u,Seen g p but M' u k↔((g.ends ei).1=u->(g.ends ei).2=but\/(g.ends ei).2∈M')/\((g.ends ei).2=u->(g.ends ei).1=but\/(g.ends ei).1∈M') from λM' u=>by unfold Seen;rw[Xk.out]);obtain⟨z1,z2⟩:=iL.out ei xl;clear oG xK AF mN fs dD wO dp SP Xk aT bI;generalize (g.ends ei).1=x at *;generalize (g.ends ei).2=y at *;obtain⟨mi,UQ⟩:∃ mi,N.getD i 0=mi:=⟨_,rfl⟩;rw[UQ] at cm;have Vi:=lh UQ;clear UQ;have aG:(λw':World=>w'.cell? ⟨gb,1,none⟩=some (.slice (some ⟨eb,cR,none⟩) g.e.length cap)/\w'.cell? ⟨pb,1,none⟩=some (.slice (some ⟨bb,eO,none⟩) p.e.length bc)/\w'.cell? ⟨bb,eO+k,none⟩=some (.int .i64 (ei:Int))/\w'.cell? ⟨eb,cR+ei*2,none⟩=some (.int .i64 x)/\w'.cell? ⟨eb,cR+ei*2+1,none⟩=some (.int .i64 y)/\ai [] wr w') wr.drew:=⟨x1,y1,ce,c0,c1,(ai.refl [] wr).drew⟩;go_wp2;refine al (λw':World=>w'.cell? ⟨gb,1,none⟩=some (.slice (some ⟨eb,cR,none⟩) g.e.length cap)/\w'.cell? ⟨pb,1,none⟩=some (.slice (some ⟨bb,eO,none⟩) p.e.length bc)/\w'.cell? ⟨bb,eO+k,none⟩=some (.int .i64 (ei:Int))/\w'.cell? ⟨eb,cR+ei*2,none⟩=some (.int .i64 x)/\w'.cell? ⟨eb,cR+ei*2+1,none⟩=some (.int .i64 y)/\ai [] wr w') [0,1,2,3,4,5,6,7,8] (Way.line [0,1,2,3,4,5,6,7,8,9,10] .done) (by kernel_rfl) (by kernel_rfl) ?_;simp only[Way.line]
     repeat
      first
       | (refine cz rfl (by rfl) (by rfl) (λ_ _ _ h=>h) aG ?_;simp only[Qa,Z1,Z2,Z3,Z4,Z5,Z6])
       | (refine aj (v:=?_) rfl (by rfl) (by rfl) (λ_ _ _ h=>h) aG (λw' aB=>?_) ?_;rotate_left;(focus ((try dsimp only at aB);go_simp;try with_reducible rfl));simp only[Qa,Z1,Z2,Z3,Z4,Z5,Z6])
       | (refine bW rfl (by rfl) (by rfl) aG ?_;simp only[Qa,Z1,Z2,Z3,Z4,Z5,Z6])
     refine aq rfl (by rfl) (by rfl) (λK hK=>?_);go_simp;have ca:=((ai.refl [] wr).alloc (.cells #[.int .i64 0,.int .i64 0] 72)).drew;have hSa:(λw':World=>w'.cell? ⟨gb,1,none⟩=some (.slice (some ⟨eb,cR,none⟩) g.e.length cap)/\w'.cell? ⟨pb,1,none⟩=some (.slice (some ⟨bb,eO,none⟩) p.e.length bc)/\w'.cell? ⟨bb,eO+k,none⟩=some (.int .i64 (ei:Int))/\w'.cell? ⟨eb,cR+ei*2,none⟩=some (.int .i64 x)/\w'.cell? ⟨eb,cR+ei*2+1,none⟩=some (.int .i64 y)/\ai [] wr w') (wr.alloc (.cells #[.int .i64 0,.int .i64 0] 72)).drew:=⟨ca.bO x1,ca.bO y1,ca.bO ce,ca.bO c0,ca.bO c1,ca⟩;refine hK.out _ _ (λ_=>hSa) ?_;clear hK K hSa ca;try simp only[Qa,Z1,Z2,Z3,Z4,Z5,Z6]
     refine aq rfl (by rfl) (by rfl) (λK hK=>?_);go_simp;have cb:=((ai.refl [] wr).alloc (.cells #[.int .i64 x,.int .i64 y] 72)).drew;have hSb:(λw':World=>w'.cell? ⟨gb,1,none⟩=some (.slice (some ⟨eb,cR,none⟩) g.e.length cap)/\w'.cell? ⟨pb,1,none⟩=some (.slice (some ⟨bb,eO,none⟩) p.e.length bc)/\w'.cell? ⟨bb,eO+k,none⟩=some (.int .i64 (ei:Int))/\w'.cell? ⟨eb,cR+ei*2,none⟩=some (.int .i64 x)/\w'.cell? ⟨eb,cR+ei*2+1,none⟩=some (.int .i64 y)/\ai [] wr w') (wr.alloc (.cells #[.int .i64 x,.int .i64 y] 72)).drew:=⟨cb.bO x1,cb.bO y1,cb.bO ce,cb.bO c0,cb.bO c1,cb⟩;refine hK.out _ _ (λ_=>hSb) ?_;clear hK K hSb aG;have n0:(wr.alloc (.cells #[.int .i64 x,.int .i64 y] 72)).drew.cell? ⟨wr.heap.size,0,none⟩=some (.int .i64 x):=(cell_of_row _ _ 0 _ _ _ (heap_alloc_new wr _)).trans rfl;have n1:(wr.alloc (.cells #[.int .i64 x,.int .i64 y] 72)).drew.cell? ⟨wr.heap.size,1,none⟩=some (.int .i64 y):=(cell_of_row _ _ 1 _ _ _ (heap_alloc_new wr _)).trans rfl;have Oo:=cb.bO cm;have Ii:Hid ((wr.alloc (.cells #[.int .i64 x,.int .i64 y] 72)).drew.heap[wr.heap.size]?=some (.cells #[.int .i64 x,.int .i64 y] 72 (0,0))):=heap_alloc_new wr _;have qV:=lh (oE.out.aL cb (by simp));have nm:=lh (HCC.out.tr cb);clear cb cm x1 y1 ce c0 c1;generalize (wr.alloc (.cells #[.int .i64 x,.int .i64 y] 72)).drew=wb at *;generalize wr.heap.size=nb at *;try simp only[Qa,Z1,Z2,Z3,Z4,Z5,Z6]
     refine ar ?_;go_upto_region 10 with fail;go_cut [57] (λc wc=>∃ bb:Bool,c=.bool bb/\Hid (bb=decide (x=mi/\¬ y=but/\¬ y∈N))/\ai [] wb wc)
     case first =>
      have aG:(λw':World=>w'.cell? ⟨nb,0,none⟩=some (.int .i64 x)/\w'.cell? ⟨nb,1,none⟩=some (.int .i64 y)/\w'.cell? ⟨gr,i,none⟩=some (.int .i64 mi)/\ai [] wb w') wb.drew:=⟨n0,n1,Oo,(ai.refl [] _).drew⟩;refine al (λw':World=>w'.cell? ⟨nb,0,none⟩=some (.int .i64 x)/\w'.cell? ⟨nb,1,none⟩=some (.int .i64 y)/\w'.cell? ⟨gr,i,none⟩=some (.int .i64 mi)/\ai [] wb w') [0,1,2,3,4,5,6,7,8,9,10,11,12,13,14,15,16,18,19] (Way.line [0,1,2,3,4,5,6,7,8,9,10,11,12,13,14,15,16,17,18,19] .done) (by kernel_rfl) (by kernel_rfl) ?_;simp only[Way.line];by_cases e1:x=mi
      ·by_cases e2:y=but
       ·have b1:(x==mi)=true:=by rw[beq_iff_eq];exact e1
        have b2:(y==but)=true:=by rw[beq_iff_eq];exact e2
        have b3:(y != but)=false:=by simp[e2]
        have b4:decide (y=but)=true:=by simp[e2]
        have E1:=lh e1;have E2:=lh e2;clear e1 e2
        repeat
         first
          | (refine cz rfl (by rfl) (by rfl) (λ_ _ _ h=>h) aG ?_;simp only[Qa,Z1,Z2,Z3,Z4,Z5,Z6])
          | (refine aj (v:=?_) rfl (by rfl) (by rfl) (λ_ _ _ h=>h) aG (λw' aB=>?_) ?_;rotate_left;(focus ((try dsimp only at aB);go_simp;try with_reducible rfl));simp only[Qa,Z1,Z2,Z3,Z4,Z5,Z6])
          | (refine bW rfl (by rfl) (by rfl) aG ?_;simp only[Qa,Z1,Z2,Z3,Z4,Z5,Z6])
        refine ar ?_;go_wp2;go_meet;case rel=>exact⟨_,rfl,lh (decide_eq_false (λq=>q.2.1 E2.out)).symm,(ai.refl [] _).drew⟩
       have b1:(x==mi)=true:=by rw[beq_iff_eq];exact e1
       have b2:(y==but)=false:=by rw[beq_eq_false_iff_ne];exact e2
       have b3:(y != but)=true:=by simp[e2]
       have b4:decide (y=but)=false:=by simp[e2]
       have E1:=lh e1;have E2:=lh e2;clear e1 e2
       repeat
        first
         | (refine cz rfl (by rfl) (by rfl) (λ_ _ _ h=>h) aG ?_;simp only[Qa,Z1,Z2,Z3,Z4,Z5,Z6])
         | (refine aj (v:=?_) rfl (by rfl) (by rfl) (λ_ _ _ h=>h) aG (λw' aB=>?_) ?_;rotate_left;(focus ((try dsimp only at aB);go_simp;try with_reducible rfl));simp only[Qa,Z1,Z2,Z3,Z4,Z5,Z6])
         | (refine bW rfl (by rfl) (by rfl) aG ?_;simp only[Qa,Z1,Z2,Z3,Z4,Z5,Z6])
       refine aq rfl (by rfl) (by rfl) (λK hK=>?_);go_simp;refine (iY _ N y _ (qV.out.aL (ai.refl [] _).drew (by simp)).ints).mono ?_;rintro e wi ⟨rfl,Is⟩;have hI:=(ai.refl [] wb).drew.tr Is;have hT:(λw':World=>w'.cell? ⟨nb,0,none⟩=some (.int .i64 x)/\w'.cell? ⟨nb,1,none⟩=some (.int .i64 y)/\w'.cell? ⟨gr,i,none⟩=some (.int .i64 mi)/\ai [] wb w') wi:=⟨hI.bO n0,hI.bO n1,hI.bO Oo,hI⟩;refine hK.out _ _ (λ_=>hT) ?_;clear hK K Is;try simp only[Qa,Z1,Z2,Z3,Z4,Z5,Z6]
       repeat
        first
         | (refine cz rfl (by rfl) (by rfl) (λ_ _ _ h=>h) hT ?_;simp only[Qa,Z1,Z2,Z3,Z4,Z5,Z6])
         | (refine aj (v:=?_) rfl (by rfl) (by rfl) (λ_ _ _ h=>h) hT (λw' aB=>?_) ?_;rotate_left;(focus ((try dsimp only at aB);go_simp;try with_reducible rfl));simp only[Qa,Z1,Z2,Z3,Z4,Z5,Z6])
         | (refine bW rfl (by rfl) (by rfl) hT ?_;simp only[Qa,Z1,Z2,Z3,Z4,Z5,Z6])
       refine ar ?_;go_wp2;go_meet;case rel=>exact⟨_,rfl,lh (by rw[Qh];simp only[Qg,decide_eq_false_iff_not,decide_eq_true_eq];exact⟨λq=>⟨E1.out,E2.out,q⟩,λq=>q.2.2⟩),hI⟩
      have b1:(x==mi)=false:=by rw[beq_eq_false_iff_ne];exact e1
      have E1:=lh e1;clear e1
      repeat
       first
        | (refine cz rfl (by rfl) (by rfl) (λ_ _ _ h=>h) aG ?_;simp only[Qa,Z1,Z2,Z3,Z4,Z5,Z6])
        | (refine aj (v:=?_) rfl (by rfl) (by rfl) (λ_ _ _ h=>h) aG (λw' aB=>?_) ?_;rotate_left;(focus ((try dsimp only at aB);go_simp;try with_reducible rfl));simp only[Qa,Z1,Z2,Z3,Z4,Z5,Z6])
        | (refine bW rfl (by rfl) (by rfl) aG ?_;simp only[Qa,Z1,Z2,Z3,Z4,Z5,Z6])
      refine ar ?_;go_wp2;go_meet;case rel=>exact⟨_,rfl,lh (decide_eq_false (λq=>E1.out q.1)).symm,(ai.refl [] _).drew⟩
     case rest =>
     obtain⟨bb,rfl,Fs,eV⟩:=hcut;rename World=>w5;have n0:=eV.bO n0;have n1:=eV.bO n1;have Oo:=eV.bO Oo;have Ii:=lh (eV.hp Ii.out);have qV:=lh (qV.out.aL eV (by simp));have nm:=lh (nm.out.tr eV);clear eV;go_upto_if 57 with fail;go_cut [9] (λc9 wc=>∃ (N:List Int) (gr nc:Nat),c9=.slice (some ⟨gr,0,none⟩) N.length nc/\KP g p but a N i k/\aw wc B (.slice (some ⟨gr,0,none⟩) N.length nc) N/\ai [] w1 wc/\Hid (N.getD i 0=mi)/\Hid (x=mi->y=but\/y∈N)/\wc.heap[nb]?=some (.cells #[.int .i64 x,.int .i64 y] 72 (0,0)))
     case first =>
      by_cases hq:x=mi/\¬ y=but/\¬ y∈N
      ·have Ib:=Fs.out.trans (decide_eq_true hq)
       subst Ib;have HQ:=lh hq;clear hq Fs;have hNV:=dE.out.1.len;go_wp2_with (at_builtin;refine cH rfl _ _ rfl (B:=B) rfl rfl (qV.out.aL ((ai.refl [] _).alloc (.cells #[.int .i64 y] 3)) (by simp)) (dI _ z2) (by have:=nm.out.size;have:=HB.out;simp;omega) (by simp;omega) ?_;intro va wa ra ca fa;obtain⟨ma,na,ea⟩:=ra.shape;subst ea;have RA:=lh ra;have CA:=lh ca;clear ra ca fa);have qJ:ai [gr] (w5.alloc (.cells #[.int .i64 y] 3)) wa:=CA.out;have PD:∃ cs r,(w5.alloc (.cells #[.int .i64 y] 3)).heap[gr]?=some (.cells cs 3 r):=bu (qV.out.aL ((ai.refl [] _).alloc (.cells #[.int .i64 y] 3)) (by simp)) gr (by simp[aC,Qd]);have Ig:=((ai.refl [] w5).alloc (.cells #[.int .i64 y] 3)).hp Ii.out;have bn:nb ∉ [gr]:=λq=>by
        obtain⟨cs,r,hh⟩:=PD;rw[<-Qc.1 q,Ig] at hh;simp at hh
       have uB:=(nm.out.alloc (.cells #[.int .i64 y] 3)).trans qJ (λj hj=>Qj (by have:=(qV.out.low gr (by simp[Qd])).1;have:=HB.out;rw[Qc.1 hj];omega));have J5:=KP.add dE.out HQ.out.2.2 HEV.out.2 (by rw[Vi.out,<-HQ.out.1];exact HNR.out) HQ.out.2.1;have ZJ:=qJ.heap Ig bn;have Aa:(N++[y]).length=N.length+1:=by simp
       have Il:=lh RA.out;rw[Aa] at Il;obtain⟨ga,ega,-⟩:=RA.out.some (by simp);subst ega;clear Il;go_meet;case rel=>exact⟨N++[y],ga,na,by rw[Aa],J5,RA.out,uB,lh (by rw[qH dE.out.2.1];exact Vi.out),lh (λ_=>Qj (by simp)),ZJ⟩
      have Ib:=Fs.out.trans (decide_eq_false hq);subst Ib;have HQ:=lh hq;clear hq Fs;go_wp2;go_meet;case rel=>exact⟨N,gr,nc,rfl,dE.out,qV.out,nm.out,Vi,lh (λq=>Qe λr=>HQ.out ⟨q,λt=>r (Qi t),λt=>r (Qj t)⟩),Ii.out⟩
     case rest =>
     clear dE Vi n0 n1 Oo Ii qV nm Fs hNL hiN;obtain⟨N7,g7,c7,rfl,h1,h2,h3,W7,P7,h4⟩:=hcut;rename World=>w7;have VI:=lh h1;have qV:=lh h2;have nm:=lh h3;have Ii:=lh h4;have n0:=(cell_of_row _ _ 0 _ _ _ h4).trans (show _=some (Qn .i64 x) from rfl);have n1:=(cell_of_row _ _ 1 _ _ _ h4).trans (show _=some (Qn .i64 y) from rfl);obtain⟨gx,e7,aiX⟩:=h2.some (by have:=h1.2.1;omega);obtain rfl:g7=gx:=by simpa using e7
     have Oo:=aiX i h1.2.1;rw[W7.out] at Oo;have hNL:=h1.1.len;have hiN:=h1.2.1;clear h1 h2 h3 h4 aiX e7;go_upto_region 12 with fail;go_cut [82] (λc wc=>∃ bb:Bool,c=.bool bb/\Hid (bb=decide (y=mi/\¬ x=but/\¬ x∈N7))/\ai [] w7 wc)
     case first =>
      have aG:(λw':World=>w'.cell? ⟨nb,0,none⟩=some (.int .i64 x)/\w'.cell? ⟨nb,1,none⟩=some (.int .i64 y)/\w'.cell? ⟨g7,i,none⟩=some (.int .i64 mi)/\ai [] w7 w') w7.drew:=⟨n0,n1,Oo,(ai.refl [] _).drew⟩;refine al (λw':World=>w'.cell? ⟨nb,0,none⟩=some (.int .i64 x)/\w'.cell? ⟨nb,1,none⟩=some (.int .i64 y)/\w'.cell? ⟨g7,i,none⟩=some (.int .i64 mi)/\ai [] w7 w') [0,1,2,3,4,5,6,7,8,9,10,11,12,13,14,15,16,18,19] (Way.line [0,1,2,3,4,5,6,7,8,9,10,11,12,13,14,15,16,17,18,19] .done) (by kernel_rfl) (by kernel_rfl) ?_;simp only[Way.line];by_cases e1:y=mi
      ·by_cases e2:x=but
       ·have b1:(y==mi)=true:=by rw[beq_iff_eq];exact e1
        have b2:(x==but)=true:=by rw[beq_iff_eq];exact e2
        have b3:(x != but)=false:=by simp[e2]
        have b4:decide (x=but)=true:=by simp[e2]
        have E1:=lh e1;have E2:=lh e2;clear e1 e2
        repeat
         first
          | (refine cz rfl (by rfl) (by rfl) (λ_ _ _ h=>h) aG ?_;simp only[Qa,Z1,Z2,Z3,Z4,Z5,Z6])
          | (refine aj (v:=?_) rfl (by rfl) (by rfl) (λ_ _ _ h=>h) aG (λw' aB=>?_) ?_;rotate_left;(focus ((try dsimp only at aB);go_simp;try with_reducible rfl));simp only[Qa,Z1,Z2,Z3,Z4,Z5,Z6])
          | (refine bW rfl (by rfl) (by rfl) aG ?_;simp only[Qa,Z1,Z2,Z3,Z4,Z5,Z6])
        refine ar ?_;go_wp2;go_meet;case rel=>exact⟨_,rfl,lh (decide_eq_false (λq=>q.2.1 E2.out)).symm,(ai.refl [] _).drew⟩
       have b1:(y==mi)=true:=by rw[beq_iff_eq];exact e1
       have b2:(x==but)=false:=by rw[beq_eq_false_iff_ne];exact e2
       have b3:(x != but)=true:=by simp[e2]
       have b4:decide (x=but)=false:=by simp[e2]
       have E1:=lh e1;have E2:=lh e2;clear e1 e2
       repeat
        first
         | (refine cz rfl (by rfl) (by rfl) (λ_ _ _ h=>h) aG ?_;simp only[Qa,Z1,Z2,Z3,Z4,Z5,Z6])
         | (refine aj (v:=?_) rfl (by rfl) (by rfl) (λ_ _ _ h=>h) aG (λw' aB=>?_) ?_;rotate_left;(focus ((try dsimp only at aB);go_simp;try with_reducible rfl));simp only[Qa,Z1,Z2,Z3,Z4,Z5,Z6])
         | (refine bW rfl (by rfl) (by rfl) aG ?_;simp only[Qa,Z1,Z2,Z3,Z4,Z5,Z6])
       refine aq rfl (by rfl) (by rfl) (λK hK=>?_);go_simp;refine (iY _ N7 x _ (qV.out.aL (ai.refl [] _).drew (by simp)).ints).mono ?_;rintro e wi ⟨rfl,Is⟩;have hI:=(ai.refl [] w7).drew.tr Is;have hT:(λw':World=>w'.cell? ⟨nb,0,none⟩=some (.int .i64 x)/\w'.cell? ⟨nb,1,none⟩=some (.int .i64 y)/\w'.cell? ⟨g7,i,none⟩=some (.int .i64 mi)/\ai [] w7 w') wi:=⟨hI.bO n0,hI.bO n1,hI.bO Oo,hI⟩;refine hK.out _ _ (λ_=>hT) ?_;clear hK K Is;try simp only[Qa,Z1,Z2,Z3,Z4,Z5,Z6]
       repeat
        first
         | (refine cz rfl (by rfl) (by rfl) (λ_ _ _ h=>h) hT ?_;simp only[Qa,Z1,Z2,Z3,Z4,Z5,Z6])
         | (refine aj (v:=?_) rfl (by rfl) (by rfl) (λ_ _ _ h=>h) hT (λw' aB=>?_) ?_;rotate_left;(focus ((try dsimp only at aB);go_simp;try with_reducible rfl));simp only[Qa,Z1,Z2,Z3,Z4,Z5,Z6])
         | (refine bW rfl (by rfl) (by rfl) hT ?_;simp only[Qa,Z1,Z2,Z3,Z4,Z5,Z6])
       refine ar ?_;go_wp2;go_meet;case rel=>exact⟨_,rfl,lh (by rw[Qh];simp only[Qg,decide_eq_false_iff_not,decide_eq_true_eq];exact⟨λq=>⟨E1.out,E2.out,q⟩,λq=>q.2.2⟩),hI⟩
      have b1:(y==mi)=false:=by rw[beq_eq_false_iff_ne];exact e1
      have E1:=lh e1;clear e1
      repeat
       first
        | (refine cz rfl (by rfl) (by rfl) (λ_ _ _ h=>h) aG ?_;simp only[Qa,Z1,Z2,Z3,Z4,Z5,Z6])
        | (refine aj (v:=?_) rfl (by rfl) (by rfl) (λ_ _ _ h=>h) aG (λw' aB=>?_) ?_;rotate_left;(focus ((try dsimp only at aB);go_simp;try with_reducible rfl));simp only[Qa,Z1,Z2,Z3,Z4,Z5,Z6])
        | (refine bW rfl (by rfl) (by rfl) aG ?_;simp only[Qa,Z1,Z2,Z3,Z4,Z5,Z6])
      refine ar ?_;go_wp2;go_meet;case rel=>exact⟨_,rfl,lh (decide_eq_false (λq=>E1.out q.1)).symm,(ai.refl [] _).drew⟩
     case rest =>
     obtain⟨bb,rfl,Fs,eV⟩:=hcut;rename World=>w6;have n0:=eV.bO n0;have n1:=eV.bO n1;have Oo:=eV.bO Oo;have Ii:=lh (eV.hp Ii.out);have qV:=lh (qV.out.aL eV (by simp));have nm:=lh (nm.out.tr eV);clear eV;go_upto_if 82 with fail;by_cases hq:y=mi/\¬ x=but/\¬ x∈N7
     ·have Ib:=Fs.out.trans (decide_eq_true hq)
      subst Ib;have HQ:=lh hq;clear hq Fs;have hNV:=VI.out.1.len;go_wp2_with (at_builtin;refine cH rfl _ _ rfl (B:=B) rfl rfl (qV.out.aL ((ai.refl [] _).alloc (.cells #[.int .i64 x] 3)) (by simp)) (dI _ z1) (by have:=nm.out.size;have:=HB.out;simp;omega) (by simp;omega) ?_;intro va wa ra ca fa;obtain⟨ma,na,ea⟩:=ra.shape;subst ea;have RA:=lh ra;have CA:=lh ca;clear ra ca fa);have qJ:ai [g7] (w6.alloc (.cells #[.int .i64 x] 3)) wa:=CA.out;have PD:∃ cs r,(w6.alloc (.cells #[.int .i64 x] 3)).heap[g7]?=some (.cells cs 3 r):=bu (qV.out.aL ((ai.refl [] _).alloc (.cells #[.int .i64 x] 3)) (by simp)) g7 (by simp[aC,Qd]);have Ig:=((ai.refl [] w6).alloc (.cells #[.int .i64 x] 3)).hp Ii.out;have bn:nb ∉ [g7]:=λq=>by
       obtain⟨cs,r,hh⟩:=PD;rw[<-Qc.1 q,Ig] at hh;simp at hh
      have uB:=(nm.out.alloc (.cells #[.int .i64 x] 3)).trans qJ (λj hj=>Qj (by have:=(qV.out.low g7 (by simp[Qd])).1;have:=HB.out;rw[Qc.1 hj];omega));have J5:=KP.add VI.out HQ.out.2.2 HEV.out.1 (by rw[W7.out,<-HQ.out.1];exact HNR.out.symm) HQ.out.2.1;have ZJ:=qJ.heap Ig bn;have Aa:(N7++[x]).length=N7.length+1:=by simp
      have Il:=lh RA.out;rw[Aa] at Il;have HN:=lh (KP.next J5 (by rw[qH VI.out.2.1,W7.out,X2.out];exact⟨λq=>(P7.out q).imp id (λq=>Qb.2 (Qi q)),λ_=>Qj (by simp)⟩));have gU:=lh uB;clear J5 uB Aa bn Ig ZJ PD qJ RA CA n0 n1 Oo;go_wp2;go_roundw;case rel=>exact⟨_,k+1,by omega,by go_num,Il.out,gU.out,HN⟩
      case measure=>simp[intOf];omega
     have Ib:=Fs.out.trans (decide_eq_false hq);subst Ib;have HQ:=lh hq;clear hq Fs;have HN:=lh (KP.next VI.out (by rw[W7.out,X2.out];exact⟨P7.out,λq=>Qe λr=>HQ.out ⟨q,λt=>r (Qi t),λt=>r (Qj t)⟩⟩));clear n0 n1 Oo;go_wp2;go_roundw;case rel=>exact⟨_,k+1,by omega,by go_num,qV.out,nm.out,HN⟩
     case measure=>simp[intOf];omega
    have e:k=p.e.length:=by omega
    subst e;have jg:=lh dE.out.outer;have HNL:=lh hNL;clear dE aT;go_wp2;go_roundw;case rel=>exact⟨N,i+1,by go_num,oE.out,HCC.out,jg⟩
    case measure=>simp[intOf];omega
  have e:i=M.length:=by omega
  subst e;have sm:=lh (λu=>qU.out.all u);have HND:=lh qU.out.1.nodup;clear qU;go_wp2;go_ret;exact⟨_,M,rfl,bA.out.base (by have:=HB.out;have:=aY.out.size;omega),sm.out,HND.out,aY.out.tr HC.out⟩
