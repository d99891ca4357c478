/- A drawing a8 one oO: how many regions. No program here. -/
import Derived.Test.YtoiflofhcmjpoaaGreatF9Ref09
set_option maxRecDepth 100000
set_option maxHeartbeats 4000000
open Go.Value renaming slice→Qa,int→Qc,ownBlock→Qv
open List renaming pairwise_iff_getElem→Qb,mergeSort_perm→Qd,all_eq_true→Qf,mem_range→Qi,length_pos_iff→Qj,range→Qk,mem_singleton→Ql,getD→Qp,append_nil→Qr,map_append→Qs
open Or renaming inl→Qe,inr→Qh
open Bool renaming and_eq_false_imp→Qg,not_eq_true'→Qn,and_eq_true→Qq,or_eq_true→Qt,false_or→Qw,not_or→Qx
open Nat renaming le_trans→Qm,le_refl→Qy,zero_le→Qz
open Int renaming toNat_natCast→Qo
open Go.Act renaming put→Qu
namespace Go.Proofs.YtoiflofhcmjpoaaGreat.Plain
section
variable {g : Gr} {p q : Pt} {aa same : List (List Int)}
theorem fI {l:List Int} {n:Int} (h:dG l n=true) (f:Int->Bool):dG (l.filter f) n=true:=by
 unfold dG;rw[Qf];intro i hi;have hi:=Qi.1 hi;have hpw:(l.filter f).Pairwise (·<·):=(bK h).sublist List.filter_sublist;have JI:∀ j (hj:j<(l.filter f).length),(l.filter f).getD j 0=(l.filter f)[j]:=λj hj=>by simp[Qp,hj]
 have hm:(l.filter f).getD i 0∈l:=(List.mem_filter.1 (aQ hi)).1;obtain⟨k,hk,e⟩:=cr hm;have h1:=cG h hk;rw[e] at h1;unfold eH;have h2:0<i->(l.filter f).getD (i - 1) 0<(l.filter f).getD i 0:=λh0=>by
  rw[JI i hi,JI (i - 1) (by omega)];exact Qb.1 hpw (i - 1) i (by omega) hi (by omega)
 by_cases h0:0<i
 ·have:=h2 h0
  simp only[Qx,Qq,Qn,decide_eq_false_iff_not,Qg,decide_eq_true_eq];exact⟨⟨by omega,by omega⟩,λ_=>by omega⟩
 simp only[Qx,Qq,Qn,decide_eq_false_iff_not,Qg,decide_eq_true_eq];exact⟨⟨by omega,by omega⟩,λk=>absurd k h0⟩
end
end Go.Proofs.YtoiflofhcmjpoaaGreat.Plain
namespace Go.Proofs.YtoiflofhcmjpoaaGreat
open Plain
open Go.RowKit Go.Maps
theorem qx (v:Value) (l:List Int) (B:Nat) (w:World) (hn:l.length<1000000000) (h:aw w B v l) :
  Calls Tryz.prog 59 #[v] w λe w'=>e=.returned (.tuple #[])/\aw w' B v (l.mergeSort λx y=>decide (x<=y))/\ai v.ownBlock.toList w w':=by
 obtain⟨ao,c,rfl⟩:=h.shape;by_cases h0:l=[]
 ·subst h0
  refine (Tryz.slices_Sort_int_none ao c w).mono ?_;rintro e w' ⟨rfl,rfl⟩;exact⟨rfl,by rw[List.mergeSort_nil];exact h,ai.refl _ _⟩
 obtain⟨g,cap,e⟩:=dj h.1 (Qj.2 h0);cases e;have hl:(ints l).length=l.length:=by simp[ints]
 have b9:=h.1;rw[<-hl] at b9;have hH:Go.Sort.Holds (Qc .i64) w g 0 l.toArray:=kI b9 (by simp[ints]);have hg:g<w.heap.size:=jR h.1 rfl;refine (Tryz.slices_Sort_int g 0 _ l w hH hg (by omega)).mono ?_;rintro e w' ⟨rfl,n,os,rfl⟩;have hs:(l.mergeSort λx y=>decide (x<=y)).length=l.length:=(Qd _ _).length_eq;have qU:=mf (enc:=Qc .i64) (n:=n) (os:=os) (d:=(l.mergeSort λx y=>decide (x<=y)).toArray) b9 (by simp[hs,hl]);refine⟨rfl,⟨?_,λx hx=>h.2.1 x ((Qd _ _).mem_iff.1 hx),by rw[hs];exact h.2.2⟩,?_⟩
 ·rw[hl] at qU
  rw[hs];exact qU
 exact np (Qc .i64) w g n os _
namespace Plain
end Plain
namespace Plain
theorem sU {d:Array Int} (hs:∀ i j,i<j->j<d.size->d[i]!<=d[j]!):∀ m,m<=d.size->(Go.Lib.compactUpTo d m).Pairwise (·<·)/\∀ x,x∈Go.Lib.compactUpTo d m↔∃ j,j<m/\x=d[j]!
 | 0,_=>by simp[Go.Lib.compactUpTo]
 | m+1,hm=>by
  obtain⟨h1,h2⟩:=sU hs m (by omega);rw[Go.Lib.compactUpTo_succ];by_cases hk:Go.Lib.keeps d m=true
  ·rw[if_pos hk]
   have OV:m=0\/d[m]!≠d[m - 1]!:=of_decide_eq_true hk;refine⟨List.pairwise_append.2 ⟨h1,List.pairwise_singleton _ _,λa ha b hb=>?_⟩,λx=>?_⟩
   ·obtain⟨j,hj,rfl⟩:=(h2 a).1 ha
    rw[Ql.1 hb];have rX:d[j]!<=d[m - 1]!:=by
     by_cases e:j=m - 1
     ·grind
     exact hs j (m - 1) (by omega) (by omega)
    have mD:=hs (m - 1) m (by omega) (by omega);have:=OV.resolve_left (by omega);omega
   rw[List.mem_append,h2,Ql];constructor
   ·rintro (⟨j,hj,q⟩ | q)
    ·exact⟨j,by omega,q⟩
    exact⟨m,by omega,q⟩
   rintro ⟨j,hj,q⟩;by_cases e:j=m
   ·rw[e] at q;exact Qh q
   exact Qe ⟨j,by omega,q⟩
  rw[if_neg hk,Qr];have OV:¬ (m=0\/d[m]!≠d[m - 1]!):=λh=>hk (decide_eq_true h);refine⟨h1,λx=>?_⟩;rw[h2];constructor
  ·rintro ⟨j,hj,q⟩;exact⟨j,by omega,q⟩
  rintro ⟨j,hj,q⟩;by_cases e:j=m
  ·refine⟨m - 1,by omega,?_⟩
   rw[q,e];exact Classical.byContradiction λh=>OV (Qh h)
  exact⟨j,by omega,q⟩
def tidy (l:List Int):List Int:=Go.Lib.compact (l.mergeSort λx y=>decide (x<=y))
theorem lM (l:List Int):(tidy l).Pairwise (·<·)/\∀ x,x∈tidy l↔x∈l:=by
 have GV:(l.mergeSort λx y=>decide (x<=y)).Pairwise (·<=·):=by
  have:=List.pairwise_mergeSort (le:=λx y:Int=>decide (x<=y)) (λa b c h1 h2=>by grind) (λa b=>by grind) l
  grind
 have hm:∀ x,x∈(l.mergeSort λx y=>decide (x<=y))↔x∈l:=λx=>(Qd _ _).mem_iff;unfold tidy
 revert GV hm
 generalize (l.mergeSort λx y=>decide (x<=y))=s;intro GV hm;have eJ:∀ i,i<s.length->s.toArray[i]! = s.getD i 0:=λi hi=>by simp[Qp,hi,getElem!_pos]
 obtain⟨h1,h2⟩:=sU (d:=s.toArray) (λi j Uw hj=>by
  have hj:j<s.length:=by simpa using hj
  rw[eJ i (by omega),eJ j hj];have:=Qb.1 GV i j (by omega) hj Uw
  grind) s.length (by simp)
 refine⟨h1,λx=>?_⟩;rw[<-hm];unfold Go.Lib.compact
 all_goals grind [aQ,cr]
end Plain
theorem NU {w:World} {B:Nat} {e:TypeId} {ao:Option Addr} {cap n m:Nat} {xs:List Value} (h:w.ownsRow B e 1 (.slice ao n cap) n xs) (hm:m<=n):w.ownsRow B e 1 (.slice ao m cap) m (xs.take m):=by
 have hl:=h.1;rcases h.2 with ⟨e1,h0⟩ | ⟨g,c,cur,e1,hg,hh,Dc,kB,ja,hys⟩
 ·cases e1
  obtain rfl:m=0:=by omega
  exact⟨by simp,Qe ⟨rfl,rfl⟩⟩
 simp only[Qa.injEq] at e1;obtain⟨rfl,-,rfl⟩:=e1;refine⟨by rw[List.length_take];omega,Qh ⟨g,cap,cur,rfl,hg,hh,by omega,kB,ja,?_⟩⟩;rw[<-hys,List.take_take];congr 1;omega
theorem n9 (v:Value) (l:List Int) (B:Nat) (w:World) (hn:l.length<1000000000) (h:aw w B v l) :
  Calls Tryz.prog 60 #[v] w λe w'=>∃ v',e=.returned v'/\aw w' B v' (Go.Lib.compact l)/\ai v.ownBlock.toList w w':=by
 obtain⟨ao,c,rfl⟩:=h.shape;by_cases h0:l=[]
 ·subst h0
  refine (Tryz.slices_Compact_int_empty ao c w).mono ?_;rintro e w' ⟨rfl,rfl⟩;exact⟨_,rfl,h,ai.refl _ _⟩
 obtain⟨g,cap,e⟩:=dj h.1 (Qj.2 h0);cases e;have hl:(ints l).length=l.length:=by simp[ints]
 have b9:=h.1;rw[<-hl] at b9;have hH:Go.Sort.Holds (Qc .i64) w g 0 l.toArray:=kI b9 (by simp[ints]);have oK:l.length<=c:=by
  rcases h.1.2 with ⟨e1,_⟩ | ⟨g',c',cur,e1,_,_,Dc,_⟩
  all_goals grind
 refine (Tryz.slices_Compact_int g 0 _ l w hH (by omega) oK).mono ?_;rintro e w' ⟨rfl,q,rfl⟩;have lu:(Go.Lib.compact l).length<=l.length:=by
  unfold Go.Lib.compact Go.Lib.compactUpTo
  grind
 have kB:∀ x∈Go.Lib.compact l,x∈l:=by
  intro x hx;unfold Go.Lib.compact Go.Lib.compactUpTo at hx
  grind
 obtain⟨D,hD⟩:∃ D,(Go.Lib.compact l++List.replicate (l.length - (Go.Lib.compact l).length) 0).toArray=D:=⟨_,rfl⟩;have hDs:D.size=(ints l).length:=by rw[<-hD,hl];simp;omega
 have qU:=mf (enc:=Qc .i64) (n:=q) (os:=#[]) (d:=D) b9 hDs;rw[hl] at qU;have DE:=NU qU lu;have YO:(D.toList.map (Qc .i64)).take (Go.Lib.compact l).length=ints (Go.Lib.compact l):=by
  rw[<-hD,Qs,List.take_left' (by simp)];rfl
 rw[YO] at DE;have hw:Go.Sort.putRow (Qc .i64) (Go.Sort.ahead w q) g 0 D=sortWorld (Qc .i64) w g 0 q D #[]:=by simp[sortWorld,Go.Sort.grow];rfl
 rw[hD,hw];refine⟨_,rfl,⟨?_,λx hx=>h.2.1 x (kB x hx),by grind⟩,?_⟩
 ·exact DE
 exact np (Qc .i64) w g q #[] D
end Go.Proofs.YtoiflofhcmjpoaaGreat
namespace Go.Proofs.YtoiflofhcmjpoaaGreat.Plain
variable {l:List Int} {n:Int}
theorem Hh (h:l.Pairwise (·<·)) (hb:∀ x∈l,0<=x/\x<n):dG l n=true:=by
 unfold dG;rw[Qf];intro i hi;have hi:=Qi.1 hi;obtain⟨h1,h2⟩:=hb _ (aQ hi);unfold eH;rw[decide_eq_false (by omega),decide_eq_false (by omega),Qw,Qw];by_cases h0:0<i
 ·have:=Qb.1 h (i - 1) i (by omega) hi (by omega)
  have e1:l.getD (i - 1) 0=l[i - 1]:=by simp[Qp,(by omega:i - 1<l.length)]
  have e2:l.getD i 0=l[i]:=by simp[Qp,hi]
  rw[decide_eq_false (p:=l.getD i 0<=l.getD (i - 1) 0) (by rw[e1,e2];omega),Bool.and_false];rfl
 rw[decide_eq_false h0,Bool.false_and];rfl
theorem sV (h:dG l n=true):∀ x∈l,0<=x/\x<n:=λx hx=>by
 obtain⟨i,hi,rfl⟩:=cr hx;have:=cG h hi;exact⟨this.1,this.2.1⟩
theorem Pt.zb {g:Gr} {p:Pt} (h0:g.err=0) (hv:dG p.v g.n=true) (he:dG p.e g.e.length=true) (hi:∀ e∈p.e,(g.ends e.toNat).1∈p.v/\(g.ends e.toNat).2∈p.v):p.err g=0:=by
 unfold Pt.err;rw[if_neg (by simp[h0]),if_neg (by simp[hv,he]),if_pos];rw[Qf];intro i hx;obtain⟨h1,h2⟩:=hi _ (aQ (Qi.1 hx));unfold Pt.cL;rw[decide_eq_true h1,decide_eq_true h2];rfl
end Go.Proofs.YtoiflofhcmjpoaaGreat.Plain
namespace Go.Proofs.YtoiflofhcmjpoaaGreat
open Plain
open Go.RowKit Go.Maps
def PtC (w:World) (v:Value) (p:Plain.Pt):Prop:=∃ v1 v2,v=.agg #[v1,v2]/\M7 w v1 p.v/\M7 w v2 p.e
namespace Plain
end Plain
theorem kQ {wr:World} {b:Nat} {a0 a1:Value} {t:TypeId} (hb:wr.heap[b]?=some (.cells #[a0,a1] t (0,0))) (u v:Value) :
  ((wr.setCell ⟨b,0,none⟩ u).setCell ⟨b,1,none⟩ v).heap[b]?=some (.cells #[u,v] t (0,0))/\((wr.setCell ⟨b,0,none⟩ u).setCell ⟨b,1,none⟩ v).cell? ⟨b,0,none⟩=some u/\((wr.setCell ⟨b,0,none⟩ u).setCell ⟨b,1,none⟩ v).cell? ⟨b,1,none⟩=some v/\ai [b] wr ((wr.setCell ⟨b,0,none⟩ u).setCell ⟨b,1,none⟩ v):=by
 have hh:=heap_setCell_same (heap_setCell_same hb 0 u) 1 v;exact⟨hh,(cell_of_row _ _ 0 _ _ _ hh).trans rfl,(cell_of_row _ _ 1 _ _ _ hh).trans rfl,((ai.refl _ wr).setCell (Qe (by simp)) _).setCell (Qe (by simp)) _⟩
end Go.Proofs.YtoiflofhcmjpoaaGreat
-- READS ONLY
namespace Go.Proofs.YtoiflofhcmjpoaaGreat
open Plain
open Go.RowKit Go.Maps
theorem M7.uL {w w':World} {B:Nat} {v:Value} {l:List Int} {own:List Nat} (h:aw w B v l) (hc:ai own w w') (ho:∀ j∈own,j<B):M7 w' v l:=by
 have h2:=h.aL hc (λb hb e=>by have:=(h.low b hb).1;have:=ho b e;omega);exact⟨h2.ints,rE.row h2⟩
end Go.Proofs.YtoiflofhcmjpoaaGreat
namespace Go.Proofs.YtoiflofhcmjpoaaGreat
open Plain
open Go
section
variable {P : Program} {ops : Array Oper} {Q : Exit -> Act -> World -> Prop} {md : Region.Mode} {w0 : World} {fr : (Nat -> Value) -> Act} {z : Nat} {fin : List Nat}
def Calm (p:Value->World->Prop):Prop:=∀ u w w',ai [] w w'->p u w->p u w'
def K9 (md:Region.Mode) (ops:Array Oper) (deps:List (List Nat)) (fin:List Nat):Bool :=
 let n:=ops.size
 apart ops.toList&&deps.length+1==n&&((Qk n).all λi=>(kW md ops i).all λx=>decide (x<i)) &&
 ((Qk (n - 1)).all λi=>(deps.getD i []).all λx=>(kW md ops i).contains x) &&
 ((Qk n).all λj=>j==n - 1 || (reach md ops n (kW md ops (n - 1))).contains j)&&(fin.all λx=>decide (x<n - 1))
end
end Go.Proofs.YtoiflofhcmjpoaaGreat
namespace Go.Proofs.YtoiflofhcmjpoaaGreat
open Plain
open Go.RowKit Go.Maps
namespace Plain
variable {g:Gr} {v:Int}
def GS (g:Gr) (ag:List Int) (v:Int):Bool:=ag.any λe=>decide ((g.at e).1=v) || decide ((g.at e).2=v)
def jo (g:Gr) (ag:List Int) (k:Nat):List Int:=((Qk k).map λi:Nat=>(i:Int)).filter (GS g ag)
def iB (g:Gr) (ag:List Int):Pt:=⟨jo g ag g.n.toNat,ag⟩
theorem zM (g:Gr) (ag:List Int) (k:Nat):jo g ag (k+1)=jo g ag k++if GS g ag (k:Int)=true then [(k:Int)] else []:=by
 unfold jo;rw[List.range_succ,Qs,List.filter_append];congr 1;by_cases h:GS g ag (k:Int)=true
 ·rw[if_pos h];exact List.filter_cons_of_pos h
 rw[if_neg h];exact List.filter_cons_of_neg h
theorem MB (g:Gr) (ag:List Int) (k:Nat):(jo g ag k).length<=k:=by
 unfold jo;exact Qm (List.length_filter_le _ _) (by simp)
theorem VS {ag:List Int} {i:Nat} (hi:i<ag.length) (h:(g.at (ag.getD i 0)).1=v\/(g.at (ag.getD i 0)).2=v):GS g ag v=true:=by
 unfold GS;rw[List.any_eq_true];exact⟨_,aQ hi,by rw[Qt,decide_eq_true_iff,decide_eq_true_iff];exact h⟩
theorem VH {ag:List Int} (h:∀ i,i<ag.length->¬ ((g.at (ag.getD i 0)).1=v\/(g.at (ag.getD i 0)).2=v)):GS g ag v=false:=by
 unfold GS;rw[List.any_eq_false];intro e he;obtain⟨i,hi,rfl⟩:=cr he;rw[Qt,decide_eq_true_iff,decide_eq_true_iff];exact h i hi
end Plain
theorem eT.aiN {w w7:World} {B ob n c n' c':Nat} {uo vo:Option Addr} {V V' E:List Int} (h:eT w B ob V E) (h0:w.cell? ⟨ob,0,none⟩=some (.slice uo n c)) (hr:aw w7 B (.slice vo n' c') V') (hc:ai (aC (.slice uo n c)) w w7) (hf:∀ b∈aC (.slice vo n' c'),b∈aC (.slice uo n c)\/w.heap.size<=b) :
  eT (w7.setCell ⟨ob,0,none⟩ (.slice vo n' c')) B ob V' E/\(∃ u,w7.cell? ⟨ob,0,none⟩=some u)/\w7.frozen? ⟨ob,0,none⟩=false/\∀ j∈aC (.slice uo n c),B<=j/\j≠ob:=by
 obtain⟨v1,v2,k1,k2,k3,k4,k5⟩:=h;have e1:=(cell_of_row _ _ 0 _ _ _ k1).trans (show _=some v1 from rfl);rw[h0] at e1;obtain rfl:Qa uo n c=v1:=by simpa using e1
 have nb:∀ {v:Value} {q:List Int},aw w B v q->ob ∉ aC v:=λh e=>by
  obtain⟨cs,r,hh⟩:=bu h _ e;rw[k1] at hh;simp at hh
 have h7:=hc.heap k1 (nb k2);have br:ai [ob] w7 (w7.setCell ⟨ob,0,none⟩ (.slice vo n' c')):=(ai.refl _ w7).setCell (Qe (by simp)) _;have rB:∀ {v:Value} {q:List Int},aw w7 B v q->∀ b∈v.ownBlock.toList,b ∉ [ob]:=λh b hb e=>by
  obtain⟨cs,r,hh⟩:=bu h b (by rw[h.aC];exact hb);simp at e;rw[e,h7] at hh;simp at hh
 have h2:=k3.aL hc (λb hb e=>k4 b e (by rw[k3.aC];exact hb));refine⟨⟨_,v2,heap_setCell_same h7 0 _,hr.aL br (rB hr),h2.aL br (rB h2),λj hj e=>?_,k5⟩,⟨_,(cell_of_row _ _ 0 _ _ _ h7).trans rfl⟩,bE h7 0,λj hj=>⟨(k2.low j (by rw[<-k2.aC];exact hj)).1,λe=>nb k2 (by rw[<-e];exact hj)⟩⟩;rcases hf j hj with q | q
 ·exact k4 j q e
 have:=(k3.low j (by rw[<-k3.aC];exact e)).2;omega
theorem PV (vg vl:Value) (g:Plain.Gr) (ag:List Int) (w:World) (jw:g.err=0) (hl:ag.length<=1000000) (hes:∀ e∈ag,0<=e/\e<g.e.length) (hg:cA w vg g) (he:aI w vl ag) :
  Calls Tryz.prog 61 #[vg,vl] w λe w'=>∃ v1 v2,e=.returned (.agg #[v1,v2])/\aw w' w.heap.size v1 (iB g ag).v/\aw w' w.heap.size v2 (iB g ag).e/\(∀ j∈aC v1,j ∉ aC v2)/\PtC w' (.agg #[v1,v2]) (iB g ag)/\ai [] w w':=by
 have AE:=lh hes;have HG:=lh hg;have HE:=lh he;have fB:=lh (Plain.Gr.aF jw);obtain⟨eo,cap,rfl,-,hm,-,aS⟩:=hg;have oe:=lh aS;obtain⟨lo,lc,rfl,hI,-,-⟩:=he;obtain⟨n,hn⟩:∃ n:Nat,g.n=(n:Int):=⟨g.n.toNat,by have:=fB.out.1;omega⟩;have J8:n<=1024:=by have:=fB.out.2.1;omega
 have HN:=lh hn;have wE:g.e.length<4294967296:=by have:=fB.out.2.2.1;have:=fB.out.1;omega
 rw[hn];clear hes aS hI jw hn;have gJ:=lh (show ai [] w (((w.alloc (.cells #[.int .i64 n,.slice eo g.e.length cap] 24)).alloc (.cells #[.slice none 0 0,.slice none 0 0] 27)).alloc (.cells #[.slice none 0 0,.slice none 0 0] 27)) from (show ai [] w (((w.alloc (.cells #[.int .i64 n,.slice eo g.e.length cap] 24)).alloc (.cells #[.slice none 0 0,.slice none 0 0] 27)).alloc (.cells #[.slice none 0 0,.slice none 0 0] 27)) from ((((ai.refl [] w).alloc _).alloc _).alloc _)));have cf:=heap_alloc_new w (.cells #[.int .i64 n,.slice eo g.e.length cap] 24);replace cf:=(show ai [] (w.alloc (.cells #[.int .i64 n,.slice eo g.e.length cap] 24)) (((w.alloc (.cells #[.int .i64 n,.slice eo g.e.length cap] 24)).alloc (.cells #[.slice none 0 0,.slice none 0 0] 27)).alloc (.cells #[.slice none 0 0,.slice none 0 0] 27)) from (((ai.refl [] (w.alloc (.cells #[.int .i64 n,.slice eo g.e.length cap] 24))).alloc _).alloc _)).heap cf (by simp);have ig:=heap_alloc_new (w.alloc (.cells #[.int .i64 n,.slice eo g.e.length cap] 24)) (.cells #[.slice none 0 0,.slice none 0 0] 27);rw[show (w.alloc (.cells #[.int .i64 n,.slice eo g.e.length cap] 24)).heap.size=w.heap.size+1 by simp] at ig;replace ig:=(show ai [] ((w.alloc (.cells #[.int .i64 n,.slice eo g.e.length cap] 24)).alloc (.cells #[.slice none 0 0,.slice none 0 0] 27)) (((w.alloc (.cells #[.int .i64 n,.slice eo g.e.length cap] 24)).alloc (.cells #[.slice none 0 0,.slice none 0 0] 27)).alloc (.cells #[.slice none 0 0,.slice none 0 0] 27)) from ((ai.refl [] ((w.alloc (.cells #[.int .i64 n,.slice eo g.e.length cap] 24)).alloc (.cells #[.slice none 0 0,.slice none 0 0] 27))).alloc _)).heap ig (by simp);have IN:=heap_alloc_new ((w.alloc (.cells #[.int .i64 n,.slice eo g.e.length cap] 24)).alloc (.cells #[.slice none 0 0,.slice none 0 0] 27)) (.cells #[.slice none 0 0,.slice none 0 0] 27);rw[show ((w.alloc (.cells #[.int .i64 n,.slice eo g.e.length cap] 24)).alloc (.cells #[.slice none 0 0,.slice none 0 0] 27)).heap.size=w.heap.size+2 by simp] at IN;have HX:=lh (λ(w2:World) (dN:ai [] (((w.alloc (.cells #[.int .i64 n,.slice eo g.e.length cap] 24)).alloc (.cells #[.slice none 0 0,.slice none 0 0] 27)).alloc (.cells #[.slice none 0 0,.slice none 0 0] 27)) w2)=>(⟨dN.c ((cell_of_row _ _ 0 _ _ _ cf).trans rfl),dN.c ((cell_of_row _ _ 1 _ _ _ cf).trans rfl),dN.heap ig (by simp),dN.heap IN (by simp),by have hz:=dN.size;simpa using hz⟩:w2.cell? ⟨w.heap.size,0,none⟩=some (.int .i64 n)/\w2.cell? ⟨w.heap.size,1,none⟩=some (.slice eo g.e.length cap)/\w2.heap[w.heap.size+1]?=some (.cells #[.slice none 0 0,.slice none 0 0] 27 (0,0))/\w2.heap[w.heap.size+2]?=some (.cells #[.slice none 0 0,.slice none 0 0] 27 (0,0))/\w.heap.size+3<=w2.heap.size));clear cf ig IN;have xJ:=lh (show (((w.alloc (.cells #[.int .i64 n,.slice eo g.e.length cap] 24)).alloc (.cells #[.slice none 0 0,.slice none 0 0] 27)).alloc (.cells #[.slice none 0 0,.slice none 0 0] 27)).heap.size=w.heap.size+3 by simp);obtain⟨x0,x1,r8,r9,bs⟩:=HX.out _ (ai.refl _ _);have HO0:=lh (show eT _ (w.heap.size+2) (w.heap.size+2) [] [] from⟨_,_,r9,da _ _,da _ _,by simp[aC,Qv],Qy _⟩);have p1:=(cell_of_row _ _ 1 _ _ _ r9).trans (show _=some (Qa none 0 0) from rfl);have z1:=bE r9 1;clear r8;go_enter Tryz.func61,Tryz.ntmps61;go_wp2_with (at_builtin;refine cH rfl _ _ rfl (B:=w.heap.size+2) (v:=.slice none 0 0) rfl rfl (da _ _) (HE.out.fresh gJ.out) (by omega) (by simp;omega) ?_;intro v6 w6 r6 c6 f6;obtain⟨o6,k6,rfl⟩:=r6.shape;have R6:=lh r6;have C6:=lh (show ai [] _ w6 from c6);have d1:=C6.out.c p1;have e1:=bE (C6.out.heap r9 (by simp)) 1;clear p1 z1 r6 c6 f6);have ao8:=HO0.out.fresh C6.out;obtain⟨v1,v2,k1,k2,k3,k4,k5⟩:=ao8;have hv1:=(cell_of_row _ _ 0 _ _ _ (C6.out.heap r9 (by simp))).trans (show _=some (Qa none 0 0) from rfl);have aa5:=(cell_of_row _ _ 0 _ _ _ k1).trans (show _=some v1 from rfl);rw[hv1] at aa5;obtain rfl:Qa none 0 0=v1:=by simpa using aa5
 have br:ai [w.heap.size+2] w6 (w6.setCell ⟨w.heap.size+2,1,none⟩ (.slice o6 ag.length k6)):=(ai.refl _ w6).setCell (Qe (by simp)) _;have LI:aw w6 (w.heap.size+2) (.slice o6 ag.length k6) ag:=R6.out;have HO:=lh (show eT (w6.setCell ⟨w.heap.size+2,1,none⟩ (.slice o6 ag.length k6)) (w.heap.size+2) (w.heap.size+2) (jo g ag 0) ag from⟨_,_,heap_setCell_same k1 1 _,da _ _,LI.aL br (λb hb e=>by
  obtain⟨cs,r,hh⟩:=bu LI b (by rw[LI.aC];exact hb);simp at e;rw[e,k1] at hh;simp at hh),by simp[aC,Qv],Qy _⟩)
 have HXB:=lh (show ∀ w2,ai [w.heap.size+2] (((w.alloc (.cells #[.int .i64 n,.slice eo g.e.length cap] 24)).alloc (.cells #[.slice none 0 0,.slice none 0 0] 27)).alloc (.cells #[.slice none 0 0,.slice none 0 0] 27)) w2->w2.cell? ⟨w.heap.size,0,none⟩=some (.int .i64 n)/\w2.cell? ⟨w.heap.size,1,none⟩=some (.slice eo g.e.length cap)/\w2.heap[w.heap.size+1]?=some (.cells #[.slice none 0 0,.slice none 0 0] 27 (0,0)) from λw2 h=>by
  obtain⟨q0,q1,q2,-,-⟩:=HX.out _ (ai.refl _ _);exact⟨h.c q0,h.c q1,h.heap q2 (by simp)⟩)
 have qk:=lh (show (((w.alloc (.cells #[.int .i64 n,.slice eo g.e.length cap] 24)).alloc (.cells #[.slice none 0 0,.slice none 0 0] 27)).alloc (.cells #[.slice none 0 0,.slice none 0 0] 27)).heap.size=w.heap.size+3 by simp);have oT:=lh ((C6.out.mono (by simp):ai [w.heap.size+2] _ w6).trans br (λj hj=>Qe hj));clear r9 bs k1 k2 k3 k4 k5 hv1 aa5 br LI d1 e1;generalize w6.setCell ⟨w.heap.size+2,1,none⟩ (.slice o6 ag.length k6)=w7 at *;generalize (((w.alloc (.cells #[.int .i64 n,.slice eo g.e.length cap] 24)).alloc (.cells #[.slice none 0 0,.slice none 0 0] 27)).alloc (.cells #[.slice none 0 0,.slice none 0 0] 27))=w1 at *;clear x0 x1;go_loopw [6] (λc wr=>∃ v:Nat,v<=n/\c=.int .i64 v/\eT wr (w.heap.size+2) (w.heap.size+2) (jo g ag v) ag/\ai [w.heap.size+2] w1 wr) (λc _=>n - (intOf c).toNat);case atStart=>exact⟨0,Qz _,rfl,HO.out,oT.out⟩
 case round =>
  obtain⟨v,hv,rfl,eY,hc⟩:=hrel;have jg:=lh eY;have HC:=lh hc;obtain⟨x0,x1,r8⟩:=HXB.out _ hc;clear r8 eY hc;by_cases aW:v<n
  ·go_wp2
   clear x0 x1;go_loopw [7] (λc wi=>∃ i:Nat,i<=ag.length/\c=.int .i64 i/\eT wi (w.heap.size+2) (w.heap.size+2) (jo g ag v) ag/\Hid (∀ j,j<i->¬ ((g.at (ag.getD j 0)).1=(v:Int)\/(g.at (ag.getD j 0)).2=(v:Int)))/\ai [w.heap.size+2] w1 wi) (λc _=>ag.length - (intOf c).toNat);case atStart=>exact⟨0,Qz _,rfl,jg.out,lh (by omega),HC.out⟩
   case round =>
    rename World=>wi;clear jg HC;obtain⟨i,hi,rfl,eY,gV,hc⟩:=hrel;have jg:=lh eY;have HC:=lh hc;have HSI:=lh (show w.heap.size+3<=wi.heap.size by rw[<-qk.out];exact hc.size);have ji:=lh (show ai [] w wi from gJ.out.trans hc (λj hj=>Qh (by simp at hj;omega)));obtain⟨x0,x1,r8⟩:=HXB.out _ hc;clear r8 eY hc;by_cases Vg:i<ag.length
    ·obtain⟨rb,sy,rfl,rc⟩:=aI.cellAt HE.out Vg
     have bX:=ji.out.c rc;have qT:=AE.out _ (Plain.aQ Vg);have Xk:=lh (λh=>VS (g:=g) (v:=(v:Int)) Vg h);have HNO:=lh (λ(h:¬ ((g.at (ag.getD i 0)).1=(v:Int)\/(g.at (ag.getD i 0)).2=(v:Int))) j (hj:j<i+1)=>show ¬ ((g.at (ag.getD j 0)).1=(v:Int)\/(g.at (ag.getD j 0)).2=(v:Int)) from by
      by_cases e:j=i
      ·rw[e];exact h
      exact gV.out j (by omega))
     obtain⟨ei,mN⟩:∃ ei:Nat,ag.getD i 0=(ei:Int):=⟨(ag.getD i 0).toNat,by omega⟩;rw[mN] at bX qT Xk HNO;have iM:ei<g.e.length:=by omega
     obtain⟨eb,cR,rfl,fs,dD⟩:=oe.out ei iM;have c0:=ji.out.c fs;have c1:=ji.out.c dD;have eJ:g.at (ei:Int)=g.ends ei:=by unfold Plain.Gr.at;rw[Qo]
     rw[eJ] at Xk HNO;obtain⟨x,hx⟩:∃ x,(g.ends ei).1=x:=⟨_,rfl⟩;obtain⟨y,hy⟩:∃ y,(g.ends ei).2=y:=⟨_,rfl⟩;rw[hx,hy] at Xk HNO;rw[hx] at c0;rw[hy] at c1;have HSP:=lh (zM g ag v);have AW:=MB g ag v;have IVV:bF (v:Int):=bF.mk (by omega) (by omega);clear rc qT mN fs dD eJ hx hy;by_cases jj:x=(v:Int)\/y=(v:Int)
     ·have vP:=lh (HSP.out.trans (by rw[if_pos (Xk.out jj)]))
      obtain⟨M,hM⟩:∃ M,jo g ag v=M:=⟨_,rfl⟩;obtain⟨M2,hM2⟩:∃ M2,jo g ag (v+1)=M2:=⟨_,rfl⟩;rw[hM] at vP jg AW;rw[hM2] at vP;have sY:=lh hM2;have sd:M.length<4294967290:=by omega
      clear hM hM2;by_cases h1:x=(v:Int)
      ·have b1:(x==(v:Int))=true:=by rw[beq_iff_eq];exact h1
       clear h1 jj;go_wp2;have aG:ai [] wi wi.drew:=(ai.refl [] wi).drew;refine al (ai [] wi) [0,1,2,3,4,5,6,7,8,9,10,11,12,13,14,15,16,17,18,19,20,21,22,23] (Way.line [0,1,2,3,4,5,6,7,8,9,10,11,12,13,14,15,16,17,18,19,20,21,22,23] .done) (by kernel_rfl) (by kernel_rfl) ?_;simp only[Way.line]
       repeat
        first
         | (refine cz rfl (by rfl) (by rfl) (λ_ _ _ h=>h) aG ?_;simp only[Qu,Z1,Z2,Z3,Z4,Z5,Z6])
         | (refine aj (v:=?_) rfl (by rfl) (by rfl) (λ_ _ _ h=>h) aG (λw' aB=>?_) ?_;rotate_left;(focus (have fE:=aB.c x1;have fV:=aB.c bX;have kD:=aB.c c0;have tq:=aB.c c1;clear aB;go_simp;try with_reducible rfl));simp only[Qu,Z1,Z2,Z3,Z4,Z5,Z6])
         | (refine bW rfl (by rfl) (by rfl) aG ?_;simp only[Qu,Z1,Z2,Z3,Z4,Z5,Z6])
       refine ar ?_;have bU:=lh (HC.out.t aG);have zF:=lh (jg.out.fresh aG);have HSD:=lh (Qm HSI.out aG.size);clear aG x0 x1 bX c0 c1;generalize wi.drew=wd at *;obtain⟨u1,u2,ku1,ZU,-,-,-⟩:=zF.out;obtain⟨uo,uc,rfl⟩:=ZU.shape;have KU:=lh ZU;have o0:=(cell_of_row _ _ 0 _ _ _ ku1).trans (show _=some (Qa uo M.length uc) from rfl);have O0:=lh o0;clear ku1 ZU;have DZ:=lh (show w.heap.size+2<=wd.heap.size by have:=HSD.out;omega);have ab9:=lh (vP.out.symm);go_wp2_with (at_builtin;refine eN rfl _ _ rfl (B:=w.heap.size+2) (v:=.slice uo _ uc) rfl rfl KU.out IVV DZ.out sd rfl ?_;intro v6 w9 r6 c6 f6;rw[ab9.out] at r6;obtain⟨o9,k9,rfl⟩:=r6.shape;have L:=lh (eT.aiN zF.out O0.out r6 c6 f6);have CC:=lh c6;obtain⟨-,⟨du,d6⟩,e6,-⟩:=L.out;clear r6 c6 f6);have br:ai [w.heap.size+2] w9 (w9.setCell ⟨w.heap.size+2,0,none⟩ (.slice o9 M2.length k9)):=(ai.refl _ w9).setCell (Qe (by simp)) _;have gU:=lh (show ai [w.heap.size+2] w1 (w9.setCell ⟨w.heap.size+2,0,none⟩ (.slice o9 M2.length k9)) from (bU.out.trans CC.out (λj hj=>Qh (by have:=L.out.2.2.2 j hj;have:=qk.out;omega))).trans br (λj hj=>Qe hj));clear br d6 e6 o0;generalize (w9.setCell ⟨w.heap.size+2,0,none⟩ (.slice o9 M2.length k9))=wF at *;go_roundw;case rel=>exact⟨v+1,by omega,by go_num,by rw[sY.out];exact L.out.1,gU.out⟩
       case measure=>simp[intOf];omega
      have b1:(x==(v:Int))=false:=by rw[beq_eq_false_iff_ne];exact h1
      have b2:(y==(v:Int))=true:=by rw[beq_iff_eq];exact jj.resolve_left h1
      clear h1 jj;go_wp2;have aG:ai [] wi wi.drew:=(ai.refl [] wi).drew;refine al (ai [] wi) [0,1,2,3,4,5,6,7,8,9,10,11,12,13,14,15,16,17,18,19,20,21,22,23] (Way.line [0,1,2,3,4,5,6,7,8,9,10,11,12,13,14,15,16,17,18,19,20,21,22,23] .done) (by kernel_rfl) (by kernel_rfl) ?_;simp only[Way.line]
      repeat (refine aj (v:=?_) rfl (by rfl) (by rfl) (λ_ _ _ h=>h) aG (λw' aB=>?_) ?_;rotate_left;(focus (have fE:=aB.c x1;have fV:=aB.c bX;have kD:=aB.c c0;have tq:=aB.c c1;clear aB;go_simp;try with_reducible rfl));simp only[Qu,Z1,Z2,Z3,Z4,Z5,Z6])
      refine ar ?_;have bU:=lh (HC.out.t aG);have zF:=lh (jg.out.fresh aG);have HSD:=lh (Qm HSI.out aG.size);clear aG x0 x1 bX c0 c1;generalize wi.drew=wd at *;obtain⟨u1,u2,ku1,ZU,-,-,-⟩:=zF.out;obtain⟨uo,uc,rfl⟩:=ZU.shape;have KU:=lh ZU;have o0:=(cell_of_row _ _ 0 _ _ _ ku1).trans (show _=some (Qa uo M.length uc) from rfl);have O0:=lh o0;clear ku1 ZU;have DZ:=lh (show w.heap.size+2<=wd.heap.size by have:=HSD.out;omega);have ab9:=lh (vP.out.symm);go_wp2_with (at_builtin;refine eN rfl _ _ rfl (B:=w.heap.size+2) (v:=.slice uo _ uc) rfl rfl KU.out IVV DZ.out sd rfl ?_;intro v6 w9 r6 c6 f6;rw[ab9.out] at r6;obtain⟨o9,k9,rfl⟩:=r6.shape;have L:=lh (eT.aiN zF.out O0.out r6 c6 f6);have CC:=lh c6;obtain⟨-,⟨du,d6⟩,e6,-⟩:=L.out;clear r6 c6 f6);have br:ai [w.heap.size+2] w9 (w9.setCell ⟨w.heap.size+2,0,none⟩ (.slice o9 M2.length k9)):=(ai.refl _ w9).setCell (Qe (by simp)) _;have gU:=lh (show ai [w.heap.size+2] w1 (w9.setCell ⟨w.heap.size+2,0,none⟩ (.slice o9 M2.length k9)) from (bU.out.trans CC.out (λj hj=>Qh (by have:=L.out.2.2.2 j hj;have:=qk.out;omega))).trans br (λj hj=>Qe hj));clear br d6 e6 o0;generalize (w9.setCell ⟨w.heap.size+2,0,none⟩ (.slice o9 M2.length k9))=wF at *;go_roundw;case rel=>exact⟨v+1,by omega,by go_num,by rw[sY.out];exact L.out.1,gU.out⟩
      case measure=>simp[intOf];omega
     have b1:(x==(v:Int))=false:=by rw[beq_eq_false_iff_ne];exact λe=>jj (Qe e)
     have b2:(y==(v:Int))=false:=by rw[beq_eq_false_iff_ne];exact λe=>jj (Qh e)
     have HN1:=lh (HNO.out jj);clear jj;go_wp2;have aG:ai [] wi wi.drew:=(ai.refl [] wi).drew;refine al (ai [] wi) [0,1,2,3,4,5,6,7,8,9,10,11,12,13,14,15,16,17,18,19,20,21,22,23] (Way.line [0,1,2,3,4,5,6,7,8,9,10,11,12,13,14,15,16,17,18,19,20,21,22,23] .done) (by kernel_rfl) (by kernel_rfl) ?_;simp only[Way.line]
     repeat (refine aj (v:=?_) rfl (by rfl) (by rfl) (λ_ _ _ h=>h) aG (λw' aB=>?_) ?_;rotate_left;(focus (have fE:=aB.c x1;have fV:=aB.c bX;have kD:=aB.c c0;have tq:=aB.c c1;clear aB;go_simp;try with_reducible rfl));simp only[Qu,Z1,Z2,Z3,Z4,Z5,Z6])
     refine ar ?_;have bU:=lh (HC.out.t aG);have zF:=lh (jg.out.fresh aG);clear aG x0 x1 bX c0 c1;generalize wi.drew=wd at *;go_wp2;go_roundw;case rel=>exact⟨i+1,by omega,by go_num,zF.out,HN1,bU.out⟩
     case measure=>simp[intOf];omega
    have e:i=ag.length:=by omega
    subst e;have vP:=lh ((zM g ag v).trans (by rw[VH gV.out,if_neg (by simp),Qr]));clear x0 x1 Vg hi;go_wp2;go_roundw;case rel=>exact⟨v+1,by omega,by go_num,by rw[vP.out];exact jg.out,HC.out⟩
    case measure=>simp[intOf];omega
  have e:v=n:=by omega
  subst e;have HSV:=lh (show iB g ag=⟨jo g ag v,ag⟩ by unfold iB;rw[HN.out,Qo]);obtain⟨V,hV⟩:∃ V,jo g ag v=V:=⟨_,rfl⟩;rw[hV] at jg HSV;obtain⟨v1,v2,k1,k2,k3,k4,-⟩:=jg.out;have K4:=lh k4;obtain⟨a1,q1,rfl⟩:=k2.shape;obtain⟨a2,q2,rfl⟩:=k3.shape;have K2:=lh k2;have K3:=lh k3;have p0:=(cell_of_row _ _ 0 _ _ _ k1).trans (show _=some (Qa a1 V.length q1) from rfl);have p1:=(cell_of_row _ _ 1 _ _ _ k1).trans (show _=some (Qa a2 ag.length q2) from rfl);obtain⟨-,-,LF⟩:=HXB.out _ HC.out;have HR8:=lh LF;have r0:=(cell_of_row _ _ 0 _ _ _ LF).trans (show _=some (Qa none 0 0) from rfl);have r1:=(cell_of_row _ _ 1 _ _ _ LF).trans (show _=some (Qa none 0 0) from rfl);have f0:=bE LF 0;have f1:=bE LF 1;have ji:=lh (show ai [] w wr from gJ.out.trans HC.out (λj hj=>Qh (by simp at hj;omega)));clear k1 k2 k3 k4 LF aW hV;go_wp2;obtain⟨-,o0,o1,o2⟩:=kQ HR8.out (.slice a1 V.length q1) (.slice a2 ag.length q2);refine bodyPost_ret (v:=.agg #[.slice a1 V.length q1,.slice a2 ag.length q2]) (by simp[results,Tryz.results61,go_sem,o0,o1]) rfl ?_;have rz:∀ {v:Value} {q:List Int},aw wr (w.heap.size+2) v q->∀ b∈v.ownBlock.toList,b ∉ [w.heap.size+1]:=λh b hb e=>by have:=(h.low b hb).1;simp at e;omega
  exact⟨_,_,rfl,by rw[HSV.out];exact (K2.out.aL o2 (rz K2.out)).base (by omega),by rw[HSV.out];exact (K3.out.aL o2 (rz K3.out)).base (by omega),K4.out,by rw[HSV.out];exact⟨_,_,rfl,M7.uL K2.out o2 (λj hj=>by simp at hj;omega),M7.uL K3.out o2 (λj hj=>by simp at hj;omega)⟩,ji.out.trans o2 (λj hj=>Qh (by simp at hj;omega))⟩
