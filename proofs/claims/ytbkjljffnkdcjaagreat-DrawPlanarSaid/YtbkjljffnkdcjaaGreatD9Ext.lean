/- rest.Extends: its contract. Conditions: drawings and parts that lie in memory and read so, of a bounded size. -/
import Derived.Test.YtbkjljffnkdcjaaGreatD9Ref09
import Derived.Test.YtbkjljffnkdcjaaGreatD9Cut
open Go.Value renaming int→Qa,slice→Qm
open List renaming length_pos_iff→Qb,mergeSort_perm→Qc,pairwise_iff_getElem→Qd,mem_singleton→Qf,getD→Qh,mem_filter→Qj,mem_range→Qk
open Bool renaming and_eq_false_imp→Qe,not_eq_true'→Qg,and_eq_true→Qi,not_or→Ql
namespace Go.Proofs.YtbkjljffnkdcjaaGreat
open Go.RowKit Go.Maps
namespace Plain
end Plain
end Go.Proofs.YtbkjljffnkdcjaaGreat
namespace Go.Proofs.YtbkjljffnkdcjaaGreat.Plain
section
variable {g : Gr} {p q : Pt} {aa same : List (List Int)}
end
theorem x4 {l:List Int} (h:l≠[]):∃ x m,first l=x :: m/\∀ y∈l,x<=y:=by
 have h0:0<l.length:=Qb.2 h;have hl:=Iz h0 l.length (Nat.le_refl _);cases e:first l with
 | nil =>
  have:=(fO l).length_eq;rw[e] at this;exact absurd (List.length_eq_zero_iff.1 this.symm) h
 | cons x m =>
  refine⟨x,m,rfl,fun y hy=>?_⟩;obtain⟨i,hi,rfl⟩:=bO hy;have e0:x=l.getD (vi l l.length) 0:=by
   have h1:(first l).getD 0 0=x:=by rw[e];rfl
   rw[<-h1];unfold first;have hd:0<l.length - vi l l.length:=by omega
   simp[Qh,List.getElem?_append,hl,hd]
  rw[e0];exact I8 l l.length i hi
section
variable {g : Gr} {p q r : Pt} {aa same : List (List Int)}
end
section
variable {g : Gr} {p q : Pt} {aa same : List (List Int)}
theorem dH {l:List Int} {n:Int} (h:fI l n=true) (f:Int->Bool):fI (l.filter f) n=true:=by
 unfold fI;rw[List.all_eq_true];intro i hi;have hi:=Qk.1 hi;have hpw:(l.filter f).Pairwise (·<·):=(bY h).sublist List.filter_sublist;have FN:∀ j (hj:j<(l.filter f).length),(l.filter f).getD j 0=(l.filter f)[j]:=fun j hj=>by simp[Qh,hj]
 have hm:(l.filter f).getD i 0∈l:=(Qj.1 (aZ hi)).1;obtain⟨k,hk,e⟩:=bO hm;have h1:=ct h hk;rw[e] at h1;unfold iK;have h2:0<i->(l.filter f).getD (i - 1) 0<(l.filter f).getD i 0:=fun h0=>by
  rw[FN i hi,FN (i - 1) (by omega)];exact Qd.1 hpw (i - 1) i (by omega) hi (by omega)
 by_cases h0:0<i
 ·have:=h2 h0
  simp only[Ql,Qi,Qg,decide_eq_false_iff_not,Qe,decide_eq_true_eq];exact⟨⟨by omega,by omega⟩,fun _=>by omega⟩
 simp only[Ql,Qi,Qg,decide_eq_false_iff_not,Qe,decide_eq_true_eq];exact⟨⟨by omega,by omega⟩,fun k=>absurd k h0⟩
end
end Go.Proofs.YtbkjljffnkdcjaaGreat.Plain
namespace Go.Proofs.YtbkjljffnkdcjaaGreat
open Go.RowKit Go.Maps
theorem sY (v:Value) (l:List Int) (B:Nat) (w:World) (hn:l.length<1000000000) (h:ax w B v l) :
  Calls Tryz.prog 110 #[v] w fun e w'=>e=.returned (.tuple #[])/\ax w' B v (l.mergeSort fun x y=>decide (x<=y))/\ai v.ownBlock.toList w w':=by
 obtain⟨ao,c,rfl⟩:=h.shape;by_cases h0:l=[]
 ·subst h0
  refine (Tryz.slices_Sort_int_none ao c w).mono ?_;rintro e w' ⟨rfl,rfl⟩;exact⟨rfl,by rw[List.mergeSort_nil];exact h,ai.refl _ _⟩
 obtain⟨g,cap,e⟩:=cN h.1 (Qb.2 h0);cases e;have hl:(ints l).length=l.length:=by simp[ints]
 have bL:=h.1;rw[<-hl] at bL;have hH:Go.Sort.Holds (Qa .i64) w g 0 l.toArray:=j6 bL (by simp[ints]);have hg:g<w.heap.size:=q7 h.1 rfl;refine (Tryz.slices_Sort_int g 0 _ l w hH hg (by omega)).mono ?_;rintro e w' ⟨rfl,n,os,rfl⟩;have hs:(l.mergeSort fun x y=>decide (x<=y)).length=l.length:=(Qc _ _).length_eq;have uL:=ly (enc:=Qa .i64) (n:=n) (os:=os) (d:=(l.mergeSort fun x y=>decide (x<=y)).toArray) bL (by simp[hs,hl]);refine⟨rfl,⟨?_,fun x hx=>h.2.1 x ((Qc _ _).mem_iff.1 hx),by rw[hs];exact h.2.2⟩,?_⟩
 ·rw[hl] at uL
  rw[hs];exact uL
 exact nf (Qa .i64) w g n os _
namespace Plain
end Plain
namespace Plain
theorem rI {d:Array Int} (hs:∀ i j,i<j->j<d.size->d[i]!<=d[j]!):∀ m,m<=d.size->(Go.Lib.compactUpTo d m).Pairwise (·<·)/\∀ x,x∈Go.Lib.compactUpTo d m↔∃ j,j<m/\x=d[j]!
 | 0,_=>by simp[Go.Lib.compactUpTo]
 | m+1,hm=>by
  obtain⟨h1,h2⟩:=rI hs m (by omega);rw[Go.Lib.compactUpTo_succ];by_cases hk:Go.Lib.keeps d m=true
  ·rw[if_pos hk]
   have Cg:m=0\/d[m]!≠d[m - 1]!:=of_decide_eq_true hk;refine⟨List.pairwise_append.2 ⟨h1,List.pairwise_singleton _ _,fun a ha b hb=>?_⟩,fun x=>?_⟩
   ·obtain⟨j,hj,rfl⟩:=(h2 a).1 ha
    rw[Qf.1 hb];have mh:d[j]!<=d[m - 1]!:=by
     by_cases e:j=m - 1
     ·rw[e];exact Int.le_refl _
     exact hs j (m - 1) (by omega) (by omega)
    have jS:=hs (m - 1) m (by omega) (by omega);have:=Cg.resolve_left (by omega);omega
   rw[List.mem_append,h2,Qf];constructor
   ·rintro (⟨j,hj,q⟩ | q)
    ·exact⟨j,by omega,q⟩
    exact⟨m,by omega,q⟩
   rintro ⟨j,hj,q⟩;by_cases e:j=m
   ·rw[e] at q;exact Or.inr q
   exact Or.inl ⟨j,by omega,q⟩
  rw[if_neg hk,List.append_nil];have Cg:¬ (m=0\/d[m]!≠d[m - 1]!):=fun h=>hk (decide_eq_true h);refine⟨h1,fun x=>?_⟩;rw[h2];constructor
  ·rintro ⟨j,hj,q⟩;exact⟨j,by omega,q⟩
  rintro ⟨j,hj,q⟩;by_cases e:j=m
  ·refine⟨m - 1,by omega,?_⟩
   rw[q,e];exact Classical.byContradiction fun h=>Cg (Or.inr h)
  exact⟨j,by omega,q⟩
def tidy (l:List Int):List Int:=Go.Lib.compact (l.mergeSort fun x y=>decide (x<=y))
theorem mw (l:List Int):(tidy l).Pairwise (·<·)/\∀ x,x∈tidy l↔x∈l:=by
 have EC:(l.mergeSort fun x y=>decide (x<=y)).Pairwise (·<=·):=by
  have:=List.pairwise_mergeSort (le:=fun x y:Int=>decide (x<=y)) (fun a b c h1 h2=>by simp only[decide_eq_true_eq] at *;omega) (fun a b=>by simp only[Bool.or_eq_true,decide_eq_true_eq];omega) l;exact this.imp fun h=>of_decide_eq_true h
 have hm:∀ x,x∈(l.mergeSort fun x y=>decide (x<=y))↔x∈l:=fun x=>(Qc _ _).mem_iff;unfold tidy
 revert EC hm
 generalize (l.mergeSort fun x y=>decide (x<=y))=s;intro EC hm;have dN:∀ i,i<s.length->s.toArray[i]! = s.getD i 0:=fun i hi=>by simp[Qh,hi,getElem!_pos]
 obtain⟨h1,h2⟩:=rI (d:=s.toArray) (fun i j MR hj=>by
  have hj:j<s.length:=by simpa using hj
  rw[dN i (by omega),dN j hj];have:=Qd.1 EC i j (by omega) hj MR;simpa[Qh,hj,(by omega:i<s.length)] using this) s.length (by simp)
 refine⟨h1,fun x=>?_⟩;rw[<-hm];unfold Go.Lib.compact;rw[h2];constructor
 ·rintro ⟨j,hj,q⟩
  rw[q,dN j hj];exact aZ hj
 intro hx;obtain⟨j,hj,e⟩:=bO hx;exact⟨j,hj,by rw[dN j hj,e]⟩
end Plain
theorem Li {w:World} {B:Nat} {e:TypeId} {ao:Option Addr} {cap n m:Nat} {xs:List Value} (h:w.ownsRow B e 1 (.slice ao n cap) n xs) (hm:m<=n):w.ownsRow B e 1 (.slice ao m cap) m (xs.take m):=by
 have hl:=h.1;rcases h.2 with ⟨e1,h0⟩ | ⟨g,c,cur,e1,hg,hh,tI,lN,jQ,Sm⟩
 ·cases e1
  obtain rfl:m=0:=by omega
  exact⟨by simp,Or.inl ⟨rfl,rfl⟩⟩
 simp only[Qm.injEq] at e1;obtain⟨rfl,-,rfl⟩:=e1;refine⟨by rw[List.length_take];omega,Or.inr ⟨g,cap,cur,rfl,hg,hh,by omega,lN,jQ,?_⟩⟩;rw[<-Sm,List.take_take]
 congr 1
 omega
theorem rG (v:Value) (l:List Int) (B:Nat) (w:World) (hn:l.length<1000000000) (h:ax w B v l) :
  Calls Tryz.prog 111 #[v] w fun e w'=>∃ v',e=.returned v'/\ax w' B v' (Go.Lib.compact l)/\ai v.ownBlock.toList w w':=by
 obtain⟨ao,c,rfl⟩:=h.shape;by_cases h0:l=[]
 ·subst h0
  refine (Tryz.slices_Compact_int_empty ao c w).mono ?_;rintro e w' ⟨rfl,rfl⟩;exact⟨_,rfl,h,ai.refl _ _⟩
 obtain⟨g,cap,e⟩:=cN h.1 (Qb.2 h0);cases e;have hl:(ints l).length=l.length:=by simp[ints]
 have bL:=h.1;rw[<-hl] at bL;have hH:Go.Sort.Holds (Qa .i64) w g 0 l.toArray:=j6 bL (by simp[ints]);have j5:l.length<=c:=by
  rcases h.1.2 with ⟨e1,_⟩ | ⟨g',c',cur,e1,_,_,tI,_⟩
  ·cases e1
  simp only[Qm.injEq] at e1;omega
 refine (Tryz.slices_Compact_int g 0 _ l w hH (by omega) j5).mono ?_;rintro e w' ⟨rfl,q,rfl⟩;have ma:(Go.Lib.compact l).length<=l.length:=by
  unfold Go.Lib.compact Go.Lib.compactUpTo;rw[List.length_map];exact Nat.le_trans (List.length_filter_le _ _) (by simp)
 have lN:∀ x∈Go.Lib.compact l,x∈l:=by
  intro x hx;unfold Go.Lib.compact Go.Lib.compactUpTo at hx;obtain⟨j,hj,rfl⟩:=List.mem_map.1 hx;have hj:=Qk.1 (Qj.1 hj).1;have:l.toArray[j]! = l[j]:=by simp[getElem!_pos,hj]
  rw[this];exact List.getElem_mem hj
 obtain⟨D,hD⟩:∃ D,(Go.Lib.compact l++List.replicate (l.length - (Go.Lib.compact l).length) 0).toArray=D:=⟨_,rfl⟩;have hDs:D.size=(ints l).length:=by rw[<-hD,hl];simp;omega
 have uL:=ly (enc:=Qa .i64) (n:=q) (os:=#[]) (d:=D) bL hDs;rw[hl] at uL;have hpt:=Li uL ma;have Wq:(D.toList.map (Qa .i64)).take (Go.Lib.compact l).length=ints (Go.Lib.compact l):=by
  rw[<-hD,List.map_append,List.take_left' (by simp)];rfl
 rw[Wq] at hpt;have hw:Go.Sort.putRow (Qa .i64) (Go.Sort.ahead w q) g 0 D=sortWorld (Qa .i64) w g 0 q D #[]:=by simp[sortWorld,Go.Sort.grow];rfl
 rw[hD,hw];refine⟨_,rfl,⟨?_,fun x hx=>h.2.1 x (lN x hx),by have:=h.2.2;omega⟩,?_⟩
 ·exact hpt
 exact nf (Qa .i64) w g q #[] D
end Go.Proofs.YtbkjljffnkdcjaaGreat
