/- A drawing without one edge: how many regions. No program here. -/
import Derived.Test.YtbkjljffnkdcjaaS9Draw
namespace Go.Proofs.Ytbkjljffnkdcjaa.Plain
section
variable {g : Gr} {p q : Pt} {turn same : List (List Int)}
theorem rises_filter {l:List Int} {n:Int} (h:rises l n=true) (f:Int→Bool):rises (l.filter f) n=true:=by
 unfold rises
 rw[List.all_eq_true]
 intro i hi
 have hi:=List.mem_range.1 hi
 have hpw:(l.filter f).Pairwise (·<·):=(rises_pair h).sublist List.filter_sublist
 have hget:∀ j (hj:j<(l.filter f).length),(l.filter f).getD j 0=(l.filter f)[j]:=fun j hj=>by simp[List.getD,hj]
 have hm:(l.filter f).getD i 0∈l:=(List.mem_filter.1 (getD_mem hi)).1
 obtain⟨k,hk,e⟩:=mem_getD hm
 have h1:=rises_at h hk
 rw[e] at h1
 unfold risesAt
 have h2:0<i→(l.filter f).getD (i - 1) 0<(l.filter f).getD i 0:=fun h0=>by
  rw[hget i hi,hget (i - 1) (by omega)]
  exact List.pairwise_iff_getElem.1 hpw (i - 1) i (by omega) hi (by omega)
 by_cases h0:0<i
 ·have:=h2 h0
  simp only[Bool.not_or,Bool.and_eq_true,Bool.not_eq_true',decide_eq_false_iff_not,Bool.and_eq_false_imp,decide_eq_true_eq]
  exact⟨⟨by omega,by omega⟩,fun _=>by omega⟩
 simp only[Bool.not_or,Bool.and_eq_true,Bool.not_eq_true',decide_eq_false_iff_not,Bool.and_eq_false_imp,decide_eq_true_eq]
 exact⟨⟨by omega,by omega⟩,fun k=>absurd k h0⟩
end
end Go.Proofs.Ytbkjljffnkdcjaa.Plain
namespace Go.Proofs.Ytbkjljffnkdcjaa
open Go.RowKit Go.Maps
theorem sortI_any (v:Value) (l:List Int) (B:Nat) (w:World) (hn:l.length<1000000000) (h:RowAt w B v l) :
  Calls Try.prog 64 #[v] w fun e w'=>e=.returned (.tuple #[])∧RowAt w' B v (l.mergeSort fun x y=>decide (x≤y))∧Chg v.ownBlock.toList w w':=by
 obtain⟨ao,c,rfl⟩:=h.shape
 by_cases h0:l=[]
 ·subst h0
  refine (Try.slices_Sort_int_none ao c w).mono ?_
  rintro e w' ⟨rfl,rfl⟩
  exact⟨rfl,by rw[List.mergeSort_nil];exact h,Chg.refl _ _⟩
 obtain⟨g,cap,e⟩:=owns_some h.1 (List.length_pos_iff.2 h0)
 cases e
 have hl:(ints l).length=l.length:=by simp[ints]
 have hown:=h.1
 rw[←hl] at hown
 have hH:Go.Sort.Holds (Value.int .i64) w g 0 l.toArray:=sorted_holds hown (by simp[ints])
 have hg:g<w.heap.size:=owns_lt h.1 rfl
 refine (Try.slices_Sort_int g 0 _ l w hH hg (by omega)).mono ?_
 rintro e w' ⟨rfl,n,os,rfl⟩
 have hs:(l.mergeSort fun x y=>decide (x≤y)).length=l.length:=(List.mergeSort_perm _ _).length_eq
 have hso:=sorted_owns (enc:=Value.int .i64) (n:=n) (os:=os) (d:=(l.mergeSort fun x y=>decide (x≤y)).toArray) hown (by simp[hs,hl])
 refine⟨rfl,⟨?_,fun x hx=>h.2.1 x ((List.mergeSort_perm _ _).mem_iff.1 hx),by rw[hs];exact h.2.2⟩,?_⟩
 ·rw[hl] at hso
  rw[hs]
  exact hso
 exact sorted_chg (Value.int .i64) w g n os _
namespace Plain
end Plain
namespace Plain
theorem compact_upTo {d:Array Int} (hs:∀ i j,i<j→j<d.size→d[i]!≤d[j]!):∀ m,m≤d.size→(Go.Lib.compactUpTo d m).Pairwise (·<·)∧∀ x,x∈Go.Lib.compactUpTo d m↔∃ j,j<m∧x=d[j]!
 | 0,_=>by simp[Go.Lib.compactUpTo]
 | m+1,hm=>by
  obtain⟨h1,h2⟩:=compact_upTo hs m (by omega)
  rw[Go.Lib.compactUpTo_succ]
  by_cases hk:Go.Lib.keeps d m=true
  ·rw[if_pos hk]
   have hk2:m=0∨d[m]!≠d[m - 1]!:=of_decide_eq_true hk
   refine⟨List.pairwise_append.2 ⟨h1,List.pairwise_singleton _ _,fun a ha b hb=>?_⟩,fun x=>?_⟩
   ·obtain⟨j,hj,rfl⟩:=(h2 a).1 ha
    rw[List.mem_singleton.1 hb]
    have hm1:d[j]!≤d[m - 1]!:=by
     by_cases e:j=m - 1
     ·rw[e];exact Int.le_refl _
     exact hs j (m - 1) (by omega) (by omega)
    have hm2:=hs (m - 1) m (by omega) (by omega)
    have:=hk2.resolve_left (by omega)
    omega
   rw[List.mem_append,h2,List.mem_singleton]
   constructor
   ·rintro (⟨j,hj,q⟩ | q)
    ·exact⟨j,by omega,q⟩
    exact⟨m,by omega,q⟩
   rintro ⟨j,hj,q⟩
   by_cases e:j=m
   ·rw[e] at q;exact Or.inr q
   exact Or.inl ⟨j,by omega,q⟩
  rw[if_neg hk,List.append_nil]
  have hk2:¬ (m=0∨d[m]!≠d[m - 1]!):=fun h=>hk (decide_eq_true h)
  refine⟨h1,fun x=>?_⟩
  rw[h2]
  constructor
  ·rintro ⟨j,hj,q⟩;exact⟨j,by omega,q⟩
  rintro ⟨j,hj,q⟩
  by_cases e:j=m
  ·refine⟨m - 1,by omega,?_⟩
   rw[q,e]
   exact Classical.byContradiction fun h=>hk2 (Or.inr h)
  exact⟨j,by omega,q⟩
def tidy (l:List Int):List Int:=Go.Lib.compact (l.mergeSort fun x y=>decide (x≤y))
theorem tidy_ok (l:List Int):(tidy l).Pairwise (·<·)∧∀ x,x∈tidy l↔x∈l:=by
 have hsort:(l.mergeSort fun x y=>decide (x≤y)).Pairwise (·≤·):=by
  have:=List.pairwise_mergeSort (le:=fun x y:Int=>decide (x≤y)) (fun a b c h1 h2=>by simp only[decide_eq_true_eq] at *;omega) (fun a b=>by simp only[Bool.or_eq_true,decide_eq_true_eq];omega) l
  exact this.imp fun h=>of_decide_eq_true h
 have hm:∀ x,x∈(l.mergeSort fun x y=>decide (x≤y))↔x∈l:=fun x=>(List.mergeSort_perm _ _).mem_iff
 unfold tidy
 revert hsort hm
 generalize (l.mergeSort fun x y=>decide (x≤y))=s
 intro hsort hm
 have hat:∀ i,i<s.length→s.toArray[i]! = s.getD i 0:=fun i hi=>by simp[List.getD,hi,getElem!_pos]
 obtain⟨h1,h2⟩:=compact_upTo (d:=s.toArray) (fun i j hij hj=>by
  have hj:j<s.length:=by simpa using hj
  rw[hat i (by omega),hat j hj]
  have:=List.pairwise_iff_getElem.1 hsort i j (by omega) hj hij
  simpa[List.getD,hj,(by omega:i<s.length)] using this) s.length (by simp)
 refine⟨h1,fun x=>?_⟩
 rw[←hm]
 unfold Go.Lib.compact
 rw[h2]
 constructor
 ·rintro ⟨j,hj,q⟩
  rw[q,hat j hj];exact getD_mem hj
 intro hx
 obtain⟨j,hj,e⟩:=mem_getD hx
 exact⟨j,hj,by rw[hat j hj,e]⟩
end Plain
theorem owns_take {w:World} {B:Nat} {e:TypeId} {ao:Option Addr} {cap n m:Nat} {xs:List Value} (h:w.ownsRow B e 1 (.slice ao n cap) n xs) (hm:m≤n):w.ownsRow B e 1 (.slice ao m cap) m (xs.take m):=by
 have hl:=h.1
 rcases h.2 with ⟨e1,h0⟩ | ⟨g,c,cur,e1,hg,hh,hnc,hcm,hcs,hys⟩
 ·cases e1
  obtain rfl:m=0:=by omega
  exact⟨by simp,Or.inl ⟨rfl,rfl⟩⟩
 simp only[Value.slice.injEq] at e1
 obtain⟨rfl,-,rfl⟩:=e1
 refine⟨by rw[List.length_take];omega,Or.inr ⟨g,cap,cur,rfl,hg,hh,by omega,hcm,hcs,?_⟩⟩
 rw[←hys,List.take_take]
 congr 1
 omega
theorem compactI_any (v:Value) (l:List Int) (B:Nat) (w:World) (hn:l.length<1000000000) (h:RowAt w B v l) :
  Calls Try.prog 67 #[v] w fun e w'=>∃ v',e=.returned v'∧RowAt w' B v' (Go.Lib.compact l)∧Chg v.ownBlock.toList w w':=by
 obtain⟨ao,c,rfl⟩:=h.shape
 by_cases h0:l=[]
 ·subst h0
  refine (Try.slices_Compact_int_empty ao c w).mono ?_
  rintro e w' ⟨rfl,rfl⟩
  exact⟨_,rfl,h,Chg.refl _ _⟩
 obtain⟨g,cap,e⟩:=owns_some h.1 (List.length_pos_iff.2 h0)
 cases e
 have hl:(ints l).length=l.length:=by simp[ints]
 have hown:=h.1
 rw[←hl] at hown
 have hH:Go.Sort.Holds (Value.int .i64) w g 0 l.toArray:=sorted_holds hown (by simp[ints])
 have hcap:l.length≤c:=by
  rcases h.1.2 with ⟨e1,_⟩ | ⟨g',c',cur,e1,_,_,hnc,_⟩
  ·cases e1
  simp only[Value.slice.injEq] at e1
  omega
 refine (Try.slices_Compact_int g 0 _ l w hH (by omega) hcap).mono ?_
 rintro e w' ⟨rfl,q,rfl⟩
 have hcl:(Go.Lib.compact l).length≤l.length:=by
  unfold Go.Lib.compact Go.Lib.compactUpTo
  rw[List.length_map]
  exact Nat.le_trans (List.length_filter_le _ _) (by simp)
 have hcm:∀ x∈Go.Lib.compact l,x∈l:=by
  intro x hx
  unfold Go.Lib.compact Go.Lib.compactUpTo at hx
  obtain⟨j,hj,rfl⟩:=List.mem_map.1 hx
  have hj:=List.mem_range.1 (List.mem_filter.1 hj).1
  have:l.toArray[j]! = l[j]:=by simp[getElem!_pos,hj]
  rw[this]
  exact List.getElem_mem hj
 obtain⟨D,hD⟩:∃ D,(Go.Lib.compact l++List.replicate (l.length - (Go.Lib.compact l).length) 0).toArray=D:=⟨_,rfl⟩
 have hDs:D.size=(ints l).length:=by rw[←hD,hl];simp;omega
 have hso:=sorted_owns (enc:=Value.int .i64) (n:=q) (os:=#[]) (d:=D) hown hDs
 rw[hl] at hso
 have hpt:=owns_take hso hcl
 have htk:(D.toList.map (Value.int .i64)).take (Go.Lib.compact l).length=ints (Go.Lib.compact l):=by
  rw[←hD,List.map_append,List.take_left' (by simp)]
  rfl
 rw[htk] at hpt
 have hw:Go.Sort.putRow (Value.int .i64) (Go.Sort.ahead w q) g 0 D=sortWorld (Value.int .i64) w g 0 q D #[]:=by simp[sortWorld,Go.Sort.grow];rfl
 rw[hD,hw]
 refine⟨_,rfl,⟨?_,fun x hx=>h.2.1 x (hcm x hx),by have:=h.2.2;omega⟩,?_⟩
 ·exact hpt
 exact sorted_chg (Value.int .i64) w g q #[] D
end Go.Proofs.Ytbkjljffnkdcjaa
namespace Go.Proofs.Ytbkjljffnkdcjaa.Plain
theorem Pt.err_of {g:Gr} {p:Pt} (h0:g.err=0) (hv:rises p.v g.n=true) (he:rises p.e g.e.length=true) (hi:∀ e∈p.e,(g.ends e.toNat).1∈p.v∧(g.ends e.toNat).2∈p.v):p.err g=0:=by
 unfold Pt.err
 rw[if_neg (by simp[h0]),if_neg (by simp[hv,he]),if_pos]
 rw[List.all_eq_true]
 intro i hx
 obtain⟨h1,h2⟩:=hi _ (getD_mem (List.mem_range.1 hx))
 unfold Pt.okEdge
 rw[decide_eq_true h1,decide_eq_true h2];rfl
end Go.Proofs.Ytbkjljffnkdcjaa.Plain
namespace Go.Proofs.Ytbkjljffnkdcjaa
open Go
section
variable {P : Program} {ops : Array Oper} {Q : Exit → Act → World → Prop} {md : Region.Mode} {w0 : World} {fr : (Nat → Value) → Act} {z : Nat} {fin : List Nat}
def Calm (p:Value→World→Prop):Prop:=∀ u w w',Chg [] w w'→p u w→p u w'
def calmChk (md:Region.Mode) (ops:Array Oper) (deps:List (List Nat)) (fin:List Nat):Bool :=
 let n:=ops.size
 apart ops.toList&&deps.length+1==n&&((List.range n).all fun i=>(afters md ops i).all fun x=>decide (x<i)) &&
 ((List.range (n - 1)).all fun i=>(deps.getD i []).all fun x=>(afters md ops i).contains x) &&
 ((List.range n).all fun j=>j==n - 1 || (reach md ops n (afters md ops (n - 1))).contains j)&&(fin.all fun x=>decide (x<n - 1))
end
end Go.Proofs.Ytbkjljffnkdcjaa
namespace Go.Proofs.Ytbkjljffnkdcjaa
open Go.RowKit Go.Maps
set_option maxRecDepth 100000 in
set_option maxHeartbeats 2000000 in
theorem gsame_any (va vb:Value) (a b:Plain.Pt) (w:World) (ha:PtAt w va a) (hb:PtAt w vb b) :
  Calls Try.prog 24 #[va,vb] w fun e w'=>e=.returned (.bool (decide (a.v=b.v)&&decide (a.e=b.e)))∧Chg [] w w':=by
 obtain⟨v1,v2,rfl,h1,h2⟩:=ha
 obtain⟨u1,u2,rfl,k1,k2⟩:=hb
 obtain⟨av,ae⟩:=a
 obtain⟨bv,be⟩:=b
 have H1:=lh h1
 have H2:=lh h2
 have K1:=lh k1
 have K2:=lh k2
 obtain⟨p1,c1,rfl,-⟩:=h1
 obtain⟨p2,c2,rfl,-⟩:=h2
 obtain⟨p3,c3,rfl,-⟩:=k1
 obtain⟨p4,c4,rfl,-⟩:=k2
 have HXC:=lh (show Chg [] w ((w.alloc (.cells #[.slice p1 av.length c1,.slice p2 ae.length c2] 27)).alloc (.cells #[.slice p3 bv.length c3,.slice p4 be.length c4] 27)) from (show Chg [] w ((w.alloc (.cells #[.slice p1 av.length c1,.slice p2 ae.length c2] 27)).alloc (.cells #[.slice p3 bv.length c3,.slice p4 be.length c4] 27)) from (((Chg.refl [] w).alloc _).alloc _)))
 have qbx0:=heap_alloc_new w (.cells #[.slice p1 av.length c1,.slice p2 ae.length c2] 27)
 replace qbx0:=(show Chg [] (w.alloc (.cells #[.slice p1 av.length c1,.slice p2 ae.length c2] 27)) ((w.alloc (.cells #[.slice p1 av.length c1,.slice p2 ae.length c2] 27)).alloc (.cells #[.slice p3 bv.length c3,.slice p4 be.length c4] 27)) from ((Chg.refl [] (w.alloc (.cells #[.slice p1 av.length c1,.slice p2 ae.length c2] 27))).alloc _)).heap qbx0 (by simp)
 have qbx1:=heap_alloc_new (w.alloc (.cells #[.slice p1 av.length c1,.slice p2 ae.length c2] 27)) (.cells #[.slice p3 bv.length c3,.slice p4 be.length c4] 27)
 rw[show (w.alloc (.cells #[.slice p1 av.length c1,.slice p2 ae.length c2] 27)).heap.size=w.heap.size+1 by simp] at qbx1
 have HX:=lh (fun (w2:World) (hbx:Chg [] ((w.alloc (.cells #[.slice p1 av.length c1,.slice p2 ae.length c2] 27)).alloc (.cells #[.slice p3 bv.length c3,.slice p4 be.length c4] 27)) w2)=>(⟨hbx.cell ((cell_of_row _ _ 0 _ _ _ qbx0).trans rfl) (by simp),hbx.cell ((cell_of_row _ _ 1 _ _ _ qbx0).trans rfl) (by simp),hbx.cell ((cell_of_row _ _ 0 _ _ _ qbx1).trans rfl) (by simp),hbx.cell ((cell_of_row _ _ 1 _ _ _ qbx1).trans rfl) (by simp),by have hz:=hbx.size;simpa using hz⟩:w2.cell? ⟨w.heap.size,0,none⟩=some (.slice p1 av.length c1)∧w2.cell? ⟨w.heap.size,1,none⟩=some (.slice p2 ae.length c2)∧w2.cell? ⟨w.heap.size+1,0,none⟩=some (.slice p3 bv.length c3)∧w2.cell? ⟨w.heap.size+1,1,none⟩=some (.slice p4 be.length c4)∧w.heap.size+2≤w2.heap.size))
 clear qbx0 qbx1
 have HXZ:=lh (show ((w.alloc (.cells #[.slice p1 av.length c1,.slice p2 ae.length c2] 27)).alloc (.cells #[.slice p3 bv.length c3,.slice p4 be.length c4] 27)).heap.size=w.heap.size+2 by simp)
 obtain⟨x0,x1,y0,y1,hsz⟩:=HX.out _ (Chg.refl _ _)
 go_enter Try.func24,Try.ntmps24
 go_wp2_with fail
 generalize ((w.alloc (.cells #[.slice p1 av.length c1,.slice p2 ae.length c2] 27)).alloc (.cells #[.slice p3 bv.length c3,.slice p4 be.length c4] 27))=w1 at *
 refine (seq_any _ _ av bv _ (H1.out.fresh HXC.out) (K1.out.fresh HXC.out)).mono ?_
 rintro e w2 ⟨rfl,hc2⟩
 have HC2:=lh (HXC.out.trans hc2 (by simp))
 clear x0 x1 y0 y1 hsz
 obtain⟨x0,x1,y0,y1,hsz⟩:=HX.out _ hc2
 clear hc2
 by_cases h0:av=bv
 ·have HE:=lh (show decide (av=bv)=true from decide_eq_true h0)
  rw[HE.out]
  clear h0
  go_wp2_with fail
  refine (seq_any _ _ ae be _ (H2.out.fresh HC2.out) (K2.out.fresh HC2.out)).mono ?_
  rintro e w3 ⟨rfl,hc3⟩
  have HC3:=lh (HC2.out.trans hc3 (by simp))
  clear x0 x1 y0 y1 hsz hc3
  go_wp2
  go_ret
  exact⟨ret_bool (by show _=(decide (av=bv)&&decide (ae=be));rw[HE.out];simp),HC3.out⟩
 have HE:=lh (show decide (av=bv)=false from decide_eq_false h0)
 rw[HE.out]
 clear h0 x0 x1 y0 y1 hsz
 go_wp2
 go_ret
 exact⟨ret_bool (by show _=(decide (av=bv)&&decide (ae=be));rw[HE.out];simp),HC2.out⟩
end Go.Proofs.Ytbkjljffnkdcjaa
namespace Go.Proofs.Ytbkjljffnkdcjaa.Plain
def insAt (x y:Int):List Int→List Int
 | []=>[]
 | z :: l=>if z=x then z :: y :: l else z :: insAt x y l
theorem insAt_split {x y:Int} {c:List Int}:∀ {a:List Int},x ∉ a→insAt x y (a++x :: c)=a++x :: y :: c
 | [],_=>by simp[insAt]
 | z :: a,h=>by
  have hz:z≠x:=fun e=>h (by rw[e];simp)
  have ih:=insAt_split (x:=x) (y:=y) (c:=c) (a:=a) fun q=>h (List.mem_cons_of_mem _ q)
  show (if z=x then z :: y :: (a++x :: c) else z :: insAt x y (a++x :: c))=z :: (a++x :: y :: c)
  rw[if_neg hz,ih]
theorem insAt_perm {x y:Int} {l:List Int} (hx:x∈l):(insAt x y l).Perm (y :: l):=by
 obtain⟨a,c,rfl,h⟩:=split_at hx
 rw[insAt_split h]
 have h1:(a++x :: y :: c).Perm ((x :: y :: c)++a):=List.perm_append_comm
 have h2:(a++x :: c).Perm ((x :: c)++a):=List.perm_append_comm
 exact h1.trans ((List.Perm.swap y x _).trans (h2.symm.cons y))
theorem ahead_ins_new {x y:Int} {l:List Int} (hn:l.Nodup) (hx:x∈l) (hy:y ∉ l):ahead (insAt x y l) y=x:=by
 obtain⟨a,c,rfl,h⟩:=split_at hx
 rw[insAt_split h,show a++x :: y :: c=(a++[x])++y :: c by simp,ahead_split (by
  intro q
  apply hy
  rcases List.mem_append.1 q with r | r
  ·simp[r]
  simp[List.mem_singleton.1 r])]
 simp[List.getD]
theorem ahead_ins_old {x y:Int} {l:List Int} (hn:l.Nodup) (hx:x∈l) (hy:y ∉ l) {u:Int} (hu:u∈l):ahead (insAt x y l) u=if ahead l u=x then y else ahead l u:=by
 obtain⟨a,c,rfl,h⟩:=split_at hx
 rw[insAt_split h]
 have hn2:(a++x :: y :: c).Nodup:=by
  have:=insAt_perm (y:=y) hx
  rw[insAt_split h] at this
  exact this.nodup_iff.2 (List.nodup_cons.2 ⟨hy,hn⟩)
 have hun:u∈a++x :: y :: c:=by
  rcases List.mem_append.1 hu with q | q
  ·simp[q]
  rcases List.mem_cons.1 q with q | q <;> simp[q]
 rw[←ahead_rot hn hu,←ahead_rot hn2 hun]
 have hm:(x :: c++a).Nodup:=(List.perm_append_comm.nodup_iff).1 hn
 have hu2:u∈x :: (c++a):=by simpa using (List.perm_append_comm.mem_iff).1 hu
 have huy:u≠y:=fun e=>hy (e ▸ hu)
 rw[List.cons_append] at hm
 rw[List.cons_append,List.cons_append,List.cons_append]
 generalize c++a=m at *
 obtain⟨hxm,hmn⟩:=List.nodup_cons.1 hm
 have A0:ahead (x :: m) x=(m.reverse++[x]).getD 0 0:=by have:=ahead_split (a:=[]) (c:=m) (u:=x) (by simp);simpa using this
 have A1:ahead (x :: y :: m) x=(m.reverse++[y,x]).getD 0 0:=by have:=ahead_split (a:=[]) (c:=y :: m) (u:=x) (by simp);simpa using this
 rcases List.mem_cons.1 hu2 with rfl | q
 ·rw[A0,A1]
  rcases List.eq_nil_or_concat m with rfl | ⟨m,z,rfl⟩
  ·simp[List.getD]
  have hz:z≠u:=fun e=>hxm (by rw[e];simp)
  simp[List.getD,hz]
 obtain⟨b,d,rfl,hb⟩:=split_at q
 have hux:u≠x:=fun e=>hxm (by rw[←e];simp)
 have e1:=ahead_split (a:=x :: b) (c:=d) (u:=u) (by simp[hux,hb])
 have e2:=ahead_split (a:=x :: y :: b) (c:=d) (u:=u) (by simp[hux,huy,hb])
 rw[show x :: (b++u :: d)=x :: b++u :: d by simp,show x :: y :: (b++u :: d)=x :: y :: b++u :: d by simp,e1,e2]
 rcases List.eq_nil_or_concat b with rfl | ⟨b,z,rfl⟩
 ·simp[List.getD]
 have hz:z≠x:=fun e=>hxm (by rw[e];simp)
 simp[List.getD,hz]
theorem ahead_pair {l:List Int} {a b:Int} (hn:l.Nodup) (hm:∀ x,x∈l↔x=a∨x=b) (hab:a≠b):ahead l a=b:=by
 match l,hn,hm with
 | [],_,hm=>exact absurd ((hm a).2 (Or.inl rfl)) (by simp)
 | [x],_,hm =>
  have h1:=(hm a).2 (Or.inl rfl)
  have h2:=(hm b).2 (Or.inr rfl)
  simp at h1 h2
  exact absurd (h1.trans h2.symm) hab
 | [x,y],hn,hm =>
  have hxy:x≠y:=by simpa using hn
  rcases (hm x).1 (by simp) with rfl | rfl
  ·rcases (hm y).1 (by simp) with rfl | rfl
   ·exact absurd rfl hxy
   simp[ahead]
  rcases (hm y).1 (by simp) with rfl | rfl
  ·have hb:(x==y)=false:=by simpa using hxy
   unfold ahead
   rw[List.idxOf_cons,hb]
   simp
  exact absurd rfl hxy
 | x :: y :: z :: m,hn,hm =>
  exfalso
  have hxy:x≠y∧x≠z∧y≠z:=by simp at hn;exact⟨hn.1.1,hn.1.2.1,hn.2.1.1⟩
  have h1:=(hm x).1 (by simp)
  have h2:=(hm y).1 (by simp)
  have h3:=(hm z).1 (by simp)
  rcases h1 with rfl | rfl <;> rcases h2 with rfl | rfl <;> rcases h3 with h3 | h3 <;> simp_all
def twins (w:List Int):List Int:=(w.map twin).reverse
theorem Rings.chord {p q:Int→Int} {x z c:Int} {A B w:List Int} {R:List (List Int)} (h:Rings p ((x :: A++z :: B) :: R)) (hw:Trail q c w z) (ht:∃ e t,twins (c :: w)=e :: t∧Trail q e t x) (hnew:∀ y∈c :: w,y ∉ ((x :: A++z :: B) :: R).flatten) (htw:∀ y∈twins (c :: w),y ∉ ((x :: A++z :: B) :: R).flatten)
  (hnd:(c :: w++twins (c :: w)).Nodup)
  (hx:∀ y∈((x :: A++z :: B) :: R).flatten,p y=x→q y=c) (hz:∀ y∈((x :: A++z :: B) :: R).flatten,p y=z→∀ e t,twins (c :: w)=e :: t→q y=e) (ho:∀ y∈((x :: A++z :: B) :: R).flatten,p y≠x→p y≠z→q y=p y) :
  Rings q ((x :: A++twins (c :: w)) :: (c :: w++z :: B) :: R):=by
 obtain⟨e,t,het,ht⟩:=ht
 have hr:=h.ring (x :: A++z :: B) (by simp)
 have hr2:Trail p x (A++z :: B) x:=hr
 obtain⟨h1,h2⟩:=Trail.append.1 hr2
 have hno:=h.nodup
 have hin1:∀ y∈x :: A,y∈((x :: A++z :: B) :: R).flatten:=fun y hy=>by
  rw[List.flatten_cons];exact List.mem_append_left _ (List.mem_append_left _ hy)
 have hin2:∀ y∈z :: B,y∈((x :: A++z :: B) :: R).flatten:=fun y hy=>by
  rw[List.flatten_cons];exact List.mem_append_left _ (List.mem_append_right _ hy)
 have hinR:∀ y∈R.flatten,y∈((x :: A++z :: B) :: R).flatten:=fun y hy=>by
  rw[List.flatten_cons];exact List.mem_append_right _ hy
 have inj:=h.inj
 have hnd1:(x :: A++z :: B).Nodup:=by
  rw[List.flatten_cons,List.nodup_append] at hno;exact hno.1
 have hdisj:∀ y∈x :: A,y∈z :: B→False:=fun y a b=>(List.nodup_append.1 hnd1).2.2 y a y b rfl
 have hxR:∀ y∈R.flatten,y∈x :: A++z :: B→False:=fun y a b=>by
  rw[List.flatten_cons,List.nodup_append] at hno
  exact hno.2.2 y b y a rfl
 -- trails of the old ring,in the new turns
 have step:∀ {l:List Int} {a b k:Int},(b=x∧k=c∨b=z∧k=e)→(∀ y∈a :: l,y∈((x :: A++z :: B) :: R).flatten)→(∀ y∈l,y≠x∧y≠z)→Trail p a l b→Trail q a l k:=by
  intro l
  induction l with
  | nil =>
   intro a b k hb hin _ hp
   have hp:p a=b:=hp
   show q a=k
   rcases hb with ⟨rfl,rfl⟩ | ⟨rfl,rfl⟩
   ·exact hx a (hin a (by simp)) hp
   exact hz a (hin a (by simp)) hp _ _ het
  | cons y l ih =>
   intro a b k hb hin hl hp
   obtain⟨e1,e2⟩:=hp
   refine⟨?_,ih hb (fun u hu=>hin u (List.mem_cons_of_mem _ hu)) (fun u hu=>hl u (List.mem_cons_of_mem _ hu)) e2⟩
   have:=hl y (by simp)
   rw[←e1]
   exact ho a (hin a (by simp)) (by rw[e1];exact this.1) (by rw[e1];exact this.2)
 have hA:Trail q x A e:=step (Or.inr ⟨rfl,rfl⟩) hin1 (fun y hy=>⟨fun q=>by
  rw[q] at hy
  have:=(List.nodup_append.1 hnd1).1
  exact (List.nodup_cons.1 this).1 hy,fun q=>hdisj y (List.mem_cons_of_mem _ hy) (by rw[q];simp)⟩) h1
 have hB:Trail q z B c:=step (Or.inl ⟨rfl,rfl⟩) hin2 (fun y hy=>⟨fun q=>hdisj y (by rw[q];simp) (List.mem_cons_of_mem _ hy),fun q=>by
  rw[q] at hy
  have:=(List.nodup_append.1 hnd1).2.1
  exact (List.nodup_cons.1 this).1 hy⟩) h2
 refine⟨fun d hd=>?_,?_⟩
 ·rcases List.mem_cons.1 hd with rfl | hd
  ·rw[het]
   show Trail q x (A++e :: t) x
   exact Trail.append.2 ⟨hA,ht⟩
  rcases List.mem_cons.1 hd with rfl | hd
  ·show Trail q c (w++z :: B) c
   exact Trail.append.2 ⟨hw,hB⟩
  refine (h.ring d (List.mem_cons_of_mem _ hd)).congr fun y hy=>?_
  have hyR:y∈R.flatten:=List.mem_flatten.2 ⟨d,hd,hy⟩
  have hpy:p y∈R.flatten:=List.mem_flatten.2 ⟨d,hd,(h.ring d (List.mem_cons_of_mem _ hd)).map_perm.mem_iff.1 (List.mem_map.2 ⟨y,hy,rfl⟩)⟩
  exact (ho y (hinR y hyR) (fun q=>hxR _ hpy (by rw[q];simp)) (fun q=>hxR _ hpy (by rw[q];simp))).symm
 have hp:((x :: A++twins (c :: w)) :: (c :: w++z :: B) :: R).flatten.Perm ((c :: w++twins (c :: w))++((x :: A++z :: B) :: R).flatten):=by
  rw[List.perm_iff_count]
  intro y
  simp only[List.flatten_cons,List.count_append]
  omega
 rw[hp.nodup_iff,List.nodup_append]
 refine⟨hnd,hno,fun a ha b hb q=>?_⟩
 subst q
 rcases List.mem_append.1 ha with r | r
 ·exact hnew a r hb
 exact htw a r hb
end Go.Proofs.Ytbkjljffnkdcjaa.Plain
