/- law 08's awake: true. -/
import Derived.Test.YtbkjljffnkdcjaaGreatD9PlanR
import Derived.ProofKit
import Derived.OpenShut
import Derived.ChangeOld
import Derived.Deep.Strs
import Derived.Lib.SmallJoins
open List renaming range→Qa,getD→Qc
open Go.World renaming cells?_some→Qb,cell?_spot→Qd
open Go.Value renaming int→Qe
namespace Go.Proofs.YtbkjljffnkdcjaaGreat
open Go.RowKit Go.Maps
end Go.Proofs.YtbkjljffnkdcjaaGreat
namespace Go.Proofs.YtbkjljffnkdcjaaGreat
namespace Plain
theorem YP {n b:Nat} {f:Nat->Nat} (h:((Qa n).all fun i=>decide (f i<=b))=true):∀ i,i<n->f i<=b:=fun i hi=>by
 have:=List.all_eq_true.1 h i (List.mem_range.2 hi);exact of_decide_eq_true this
theorem Ul {T:List (List Int)} {b:Nat} (h:∀ i,i<T.length->(T.getD i []).length<=b):∀ i,(T.getD i []).length<=b:=fun i=>by
 by_cases hi:i<T.length
 ·exact h i hi
 simp[Qc,Nat.not_lt.1 hi]
theorem AR {T:List (List Int)} {b:Nat} (h:∀ i,(T.getD i []).length<=b):∀ k,cu T k<=k*b
 | 0=>by simp[cu]
 | k+1=>by
  have:=AR h k;have h1:=h k;have e:cu T (k+1)=cu T k+(T.getD k []).length:=rfl;rw[e,Nat.succ_mul];omega
end Plain
end Go.Proofs.YtbkjljffnkdcjaaGreat
namespace Go.Proofs.YtbkjljffnkdcjaaGreat
open Go.ChangeShapes Go.WideShapes Go.ChangeAt Go.RowKit Go.Deep Go.Joins
section
variable {H : Type} {enc : TypeId × Value -> H} {w : World} {base : Nat} {held : Bool}
theorem DH:Tryz.prog.cellsOf 3=1:=by kernel_rfl
theorem Ps:Tryz.prog.cellsOf 25=1:=by kernel_rfl
theorem Mh:Tryz.prog.cellsOf 75=2:=by kernel_rfl
theorem tp {fuel:Nat} {u:Value} {x:DataW H × List MemPlace} (h:DataW.trod enc Tryz.prog w base (fun _=>true) held fuel 25 [u]=some x):∃ l,aJ w u l/\nX u:=by
 rcases open_ints Tryz.underlying25 Tryz.underlying3 DH h with ⟨jQ,_⟩ | ⟨a,oe,eS,zs,jQ,_,hl,hm,hz,_,aO,Fz⟩
 ·simp at jQ
  subst jQ;exact⟨[],aJ.nil w,none,0,0,rfl,by decide,by decide⟩
 simp at jQ;subst jQ;have hz':zs.length=eS:=by simpa using hz
 have hlen:(zs.take oe).length=oe:=by simp;omega
 unfold maxLen at hm;refine⟨zs.take oe,⟨some a,eS,by rw[hlen],fun y hy=>Fz y (List.mem_of_mem_take hy),by rw[hlen];omega,fun bh=>?_⟩,some a,oe,eS,rfl,hl,by omega⟩;obtain⟨b,off,rfl,hc⟩:=ints_at aO (by
  rcases Nat.eq_zero_or_pos zs.length with q | q
  ·rw[List.length_eq_zero_iff.1 q] at bh;simp at bh
  exact q)
 refine⟨b,off,rfl,fun i hi=>?_⟩;rw[hlen] at hi;rw[hc i (by omega)];simp[Qc,hi]
theorem LW {fuel:Nat} {u:Value} {x:DataW H × List MemPlace} (h:DataW.trod enc Tryz.prog w base (fun _=>true) held fuel 30 [u]=some x):∃ ll,eC w u ll:=by
 rcases open_slice Tryz.underlying30 h with ⟨jQ,_⟩ | ⟨a,oe,eS,m,n,D,Pl,jQ,_,hl,hm,nq,_,hx⟩
 ·simp at jQ
  subst jQ;exact⟨[],none,0,rfl,by decide,fun i hi=>absurd hi (by simp)⟩
 simp at jQ;subst jQ;simp only[if_true] at nq;subst nq;have each:∀ i,i<m->∃ l:List Int,∃ u,w.cell? (a.add (i*1))=some u/\aJ w u l/\nX u:=by
  intro i hi;obtain⟨Eu,hc,ht⟩:=hx i hi;rw[Ps] at hc;obtain⟨_,hlen,dN⟩:=Qb hc
  match Eu,hlen with
  | [c0],_ =>
   obtain⟨l,h1,h2⟩:=tp ht;refine⟨l,c0,?_,h1,h2⟩;have:=dN 0 (by omega);rw[add_add] at this;simpa using this
 obtain⟨f,hf⟩:=choose_lt each;unfold maxLen at hm;refine⟨(Qa oe).map f,some a,m,by simp,by simp;omega,fun i hi=>?_⟩;have hi:i<oe:=by simpa using hi
 obtain⟨u,k0,k1,k2⟩:=hf i (by omega);obtain⟨b,off,spot⟩:=a;have hs:spot=none:=by
  obtain⟨u0,z0,-⟩:=hf 0 (by omega);have:=Qd z0;simpa[Addr.add] using this
 subst hs;refine⟨b,off,u,rfl,?_,k2,by simpa[Qc,hi] using k1⟩;have:=k0;rw[add_plain] at this;simpa using this
set_option maxRecDepth 100000 in
theorem SQ {r:Reach} {b0:Nat} {v:Value} {d:DataW H} {p:List MemPlace} (hv:Value.okWide Tryz.prog w r b0 24 v) (h:DataW.Trod enc Tryz.prog w base (fun _=>true) held 24 v d p):∃ g,dU w v g:=by
 obtain⟨c0,c1,y0,y1,n,rfl,-,-,h0,h1⟩:=open_agg2 Tryz.underlying24 (by kernel_rfl) (by kernel_rfl) hv h;obtain⟨N,e0,_,w0⟩:=DataW.trod_int Tryz.underlying3 h0;simp at e0;subst e0;rcases open_slice Tryz.underlying22 h1 with ⟨jQ,_⟩ | ⟨a,oe,eS,m,n',D,Pl,jQ,_,hl,hm,nq,_,hx⟩
 ·simp at jQ
  subst jQ;exact⟨⟨N,[]⟩,none,0,rfl,w0,Nat.zero_le _,fun i hi=>absurd hi (by simp),fun i hi=>absurd hi (by simp)⟩
 simp at jQ;subst jQ;simp only[if_true] at nq;subst nq;have each:∀ i,i<m->∃ y:Int × Int,(bn y.1/\bn y.2)/\w.cell? (a.add (i*2))=some (.int .i64 y.1)/\w.cell? (a.add (i*2+1))=some (.int .i64 y.2):=by
  intro i hi;obtain⟨Eu,hc,ht⟩:=hx i hi;rw[Mh] at hc;obtain⟨_,hlen,dN⟩:=Qb hc;obtain⟨y0,y1,n',_,_,k0,k1⟩:=trod_struct2 Tryz.underlying75 ht
  match Eu,hlen with
  | [c0,c1],_ =>
   simp only[DH,List.drop_zero,List.drop_succ_cons,List.take_succ_cons,List.take_zero] at k0 k1;obtain⟨x0,e0,_,q0⟩:=DataW.trod_int Tryz.underlying3 k0;obtain⟨x1,e1,_,q1⟩:=DataW.trod_int Tryz.underlying3 k1;simp at e0 e1;subst e0 e1;refine⟨(x0,x1),⟨q0,q1⟩,?_,?_⟩
   ·have:=dN 0 (by omega);rw[add_add] at this;simpa using this
   have:=dN 1 (by omega);rw[add_add] at this;simpa using this
 obtain⟨f,hf⟩:=choose_lt each;unfold maxLen at hm;have hg:∀ i,i<oe->((Qa oe).map f).getD i (0,0)=f i:=fun i hi=>by simp[Qc,hi]
 refine⟨⟨N,(Qa oe).map f⟩,some a,m,by simp,w0,by simp;omega,fun i hi=>?_,fun i hi=>?_⟩
 ·have hi:i<oe:=by simpa using hi
  show bn (((Qa oe).map f).getD i (0,0)).1/\bn (((Qa oe).map f).getD i (0,0)).2;rw[hg i hi];exact (hf i (by omega)).1
 have hi:i<oe:=by simpa using hi
 obtain⟨_,k0,k1⟩:=hf i (by omega);obtain⟨b,off,spot⟩:=a;have hs:spot=none:=by
  have:=Qd (hf 0 (by omega)).2.1;simpa[Addr.add] using this
 subst hs;refine⟨b,off,rfl,?_,?_⟩
 ·show _=some (Qe .i64 (((Qa oe).map f).getD i (0,0)).1)
  rw[hg i hi,<-add_plain];exact k0
 show _=some (Qe .i64 (((Qa oe).map f).getD i (0,0)).2);rw[hg i hi,Nat.add_assoc,<-add_plain];exact k1
end
end Go.Proofs.YtbkjljffnkdcjaaGreat
namespace Go.Proofs.YtbkjljffnkdcjaaGreat
open Go.RowKit Go.Maps
end Go.Proofs.YtbkjljffnkdcjaaGreat
namespace Go.Proofs.YtbkjljffnkdcjaaGreat
open Go.RowKit Go.Maps
end Go.Proofs.YtbkjljffnkdcjaaGreat
