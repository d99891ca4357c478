/- Turns of which some aK are taken out: where one lands that goes on until a dart that is left. No program here. -/
import Derived.Test.YtkacjmoamgjfpaaGreatA9Cut
import Derived.Test.YtkacjmoamgjfpaaGreatA9Ref09
namespace Go.Proofs.YtkacjmoamgjfpaaGreat.aA
structure aIL (g:Gr) (p q:Pt) (aB:List (List Int)):Prop where
 pe:p.err g=0
 qe:q.err g=0
 to_:aW g p aB
 aIK:∀ e∈q.e,e∈p.e
 aIJ:∀ v∈q.v,v∈p.v
section
variable {g : Gr} {p q : Pt} {aB : List (List Int)}
theorem qY (h:bB g p) {x:Int}:x∈ground g p aB p.v↔x∈p.aK∨∃ v∈p.v,aX aB v=[]∧x = -1 - v:=by
 rw[dV];constructor
 ·rintro (q | q)
  ·exact Or.inl q.1
  exact Or.inr q
 rintro (q | q)
 ·exact Or.inl ⟨q,(h.dN q).1⟩
 exact Or.inr q
theorem aEU (h:bB g p) (ht:aW g p aB) {v d:Int} (hv:v∈p.v) (hd:d∈aX aB v):d∈p.aK∧g.tail d=v:=by
 have:=h.vr _ hv;exact (ht.mem _ this.1 this.2 d).1 hd
end
theorem Eqv.aIo {R:Int→Int→Prop} (h:Eqv R) (f:Int→Int):Eqv fun x y=>R (f x) (f y):=⟨fun _x=>h.refl _,fun q=>h.symm q,fun q r=>h.trans q r⟩
section
variable {g : Gr} {p q : Pt} {aB : List (List Int)}
theorem aFS (h:bB g p) (ht:aW g p aB) {v:Int} (hv:v∈p.v):aDn aB v∈ground g p aB p.v∧oN g (aDn aB v)=v:=by
 have h0:=(h.vr v hv).1;unfold aDn;split
 ·rename_i hl
  obtain⟨d1,d2⟩:=aEU h ht hv (aZ hl);exact⟨(qY h).2 (Or.inl d1),by rw[gA h d1,d2]⟩
 rename_i hl;exact⟨(qY h).2 (Or.inr ⟨v,hv,List.length_eq_zero_iff.1 (by omega),rfl⟩),jM h0⟩
structure aIB (g:Gr) (p q:Pt) (aB:List (List Int)) (C:List (List Int)):Prop where
 rings:cF (fun x=>bef g aB (tw q.e x)) C
 all:C.flatten.Perm (ground g p aB p.v)
theorem aHx {W:List aO} (hpe:p.err g=0) (ht:aW g p aB) (hW:bV g p aB W) (he:p.v.length+W.length=2*(roots g p).length+p.e.length):∀ r∈roots g p,cC g p W r=0:=by
 have h:=Pt.aQ hpe;have h1:=kX h (fun v:Int=>v) p.v (fun _ hx=>hx);have h2:=kX h (fun f:aO=>f.aY g) W (dG h hW.eF);have h3:=kX h (fun e:Int=>g.tail (2*e)) p.e (fun e hx=>(h.dN (d:=2*e) (bN.2 (by rw[show 2*e / 2=e by omega];exact hx))).1);have hcl:∀ r,(p.v.filter fun v=>decide (v∈comp g p r)).length=(comp g p r).length:=fun r=>zL r;have key:∀ {R:List Int} {a b c:Int→Nat},(∀ r∈R,a r+b r≤2+c r)→(R.map a).sum+(R.map b).sum=2*R.length+(R.map c).sum→∀ r∈R,a r+b r=2+c r:=by
  intro R a b c
  induction R with
  | nil=>intro _ _ r hr;simp at hr
  | cons x R ih =>
   intro hle hs r hr;simp only[List.map_cons,List.sum_cons,List.length_cons] at hs;have hx:=hle x (by simp);have hR:(R.map a).sum+(R.map b).sum≤2*R.length+(R.map c).sum:=by
    have:∀ {R:List Int},(∀ r∈R,a r+b r≤2+c r)→(R.map a).sum+(R.map b).sum≤2*R.length+(R.map c).sum:=by
     intro R
     induction R with
     | nil=>intro _;simp
     | cons y R ih2 =>
      intro hl;have:=hl y (by simp);have:=ih2 fun r hr=>hl r (by simp[hr]);simp only[List.map_cons,List.sum_cons,List.length_cons];omega
    exact this fun r hr=>hle r (by simp[hr])
   rcases List.mem_cons.1 hr with rfl | hr
   ·omega
   exact ih (fun r hr=>hle r (by simp[hr])) (by omega) r hr
 intro r hr;have:=key (R:=roots g p) (a:=fun r=>(p.v.filter fun v=>decide (v∈comp g p r)).length) (b:=fun r=>(W.filter fun f=>decide (f.aY g∈comp g p r)).length) (c:=fun r=>(p.e.filter fun e=>decide (g.tail (2*e)∈comp g p r)).length)
  (fun r hr=>by show (p.v.filter fun v=>decide (v∈comp g p r)).length+_≤_;rw[hcl];exact aGo hpe ht hW r) (by rw[h1,h2,h3];exact he) r hr
 simp only[hcl] at this;unfold cC;have e:(2 - ((comp g p r).length:Int)+((p.e.filter fun e=>decide (g.tail (2*e)∈comp g p r)).length:Int) - ((W.filter fun f=>decide (f.aY g∈comp g p r)).length:Int))=0:=by omega
 rw[e];rfl
end
section
variable {g : Gr} {p q : Pt} {aB same : List (List Int)}
theorem eP (hz:aN g p aB same=0):p.err g=0∧aW g p aB:=bC (bY (cX hz).1).1
theorem aHA (hpe:p.err g=0) (ht:aW g p aB) {x:Int} (hx:x∈ground g p aB p.v):∃ f∈aH g p aB,x∈marks f:=by
 have hW:=bS hpe ht;obtain⟨w1,w2⟩:=qP hpe ht hW (fP.all (Pt.aQ hpe));obtain⟨c,hc,hxc⟩:=List.mem_flatten.1 (w2.mem_iff.2 hx);obtain⟨f,hf,rfl⟩:=List.mem_map.1 hc;exact⟨f,(List.mem_filter.1 hf).1,hxc⟩
theorem rC (hpe:p.err g=0) (ht:aW g p aB) {f:aO} (hf:f∈aH g p aB):marks f∈nH g (aH g p aB) p.v∧∀ x∈marks f,x∈ground g p aB p.v:=by
 have h:=Pt.aQ hpe;have hW:=bS hpe ht;obtain⟨w1,w2⟩:=qP hpe ht hW (fP.all h);have hm:marks f∈nH g (aH g p aB) p.v:=List.mem_map.2 ⟨f,List.mem_filter.2 ⟨hf,decide_eq_true (dG h hW.eF f hf)⟩,rfl⟩;exact⟨hm,fun x hx=>w2.mem_iff.1 (List.mem_flatten.2 ⟨_,hm,hx⟩)⟩
theorem wK (hpe:p.err g=0) (ht:aW g p aB) {f:aO} (hf:f∈aH g p aB):f.1∈marks f∧oN g f.1=f.aY g:=by
 have h:=Pt.aQ hpe;have hW:=bS hpe ht
 match e:f.2 with
 | [] =>
  obtain⟨v,hv,-,e1⟩:=aAO hW.eF hf e;refine⟨by rw[iZ e];simp,?_⟩;unfold aO.aY;rw[e,e1,jM (h.vr v hv).1];show v = -1 - (-1 - v);omega
 | d :: l =>
  have hk:=hW.eF.key f hf d l e;have hm:f.1∈marks f:=by rw[fU (by rw[e];simp),e,hk];simp
  refine⟨hm,?_⟩;have hd:f.1∈p.aK:=by
   rcases (qY h).1 ((rC hpe ht hf).2 _ hm) with q | ⟨v,hv,e2,e3⟩
   ·exact q
   exfalso;have hl:=zE hW.eF hv e2;have:=jY (dF hpe hW) hf hl e3;rw[this] at e;cases e
  rw[gA h hd];unfold aO.aY;rw[e]
theorem xQ (hz:aN g p aB same=0) (hne:p.v≠[]):(roots g p).length+(aJ g p aB same).length=(aH g p aB).length+1:=by
 obtain⟨hpe,hto⟩:=eP hz;have h:=Pt.aQ hpe;have hW:=bS hpe hto;have hpt:=iN hz hW;have hr:(roots g p).length≠0:=by
  obtain⟨v,hv⟩:=List.exists_mem_of_ne_nil _ hne;obtain⟨r,hr,-⟩:=kT (g:=g) (fun v hv=>(h.vr v hv).1) hv;have:=List.length_pos_of_mem hr;omega
 have h1:=(vT hz).1 hr;have h2:=(gY hpt).perm.length_eq;unfold eQ at h2;rw[List.length_append] at h2;have h3:=yI hpt.mJ hpt.nodup hpt.keys;omega
theorem sI (h:bB g p) {u:Int} (hu:u∈p.v):bO g p u<(roots g p).length∧u∈comp g p ((roots g p).getD (bO g p u) 0):=by
 obtain⟨r,hr,hc⟩:=kT (g:=g) (fun v hv=>(h.vr v hv).1) hu;obtain⟨n,hn,e⟩:=List.getElem_of_mem hr;have hg:(roots g p).getD n 0=r:=by simp[List.getD,hn,e]
 have hm:u∈comp g p ((roots g p).getD n 0):=by rw[hg];exact bZ.2 ⟨hu,hc⟩
 have:=gJ h hn hm;rw[this];exact⟨hn,hm⟩
theorem aCE (h:bB g p) {u v:Int} (hu:u∈p.v) (hv:v∈p.v) (c:dT g p (-1) u v):bO g p u=bO g p v:=by
 obtain⟨n1,c1⟩:=sI h hu;exact (gJ h n1 (bZ.2 ⟨hv,(bZ.1 c1).2.trans c⟩)).symm
end
end Go.Proofs.YtkacjmoamgjfpaaGreat.aA
namespace Go.Proofs.YtkacjmoamgjfpaaGreat
open Go.RowKit Go.Maps
namespace aA
end aA
namespace aA
theorem yS {c:aO→Int} {W:List aO}:(eT c W).length≤W.length∧∀ i,((eT c W).getD i []).length≤W.length:=by
 refine⟨?_,fun i=>?_⟩
 ·unfold eT
  rw[List.length_map];exact List.length_filter_le _ _
 by_cases hi:i<(eT c W).length
 ·have hm:(eT c W).getD i []∈eT c W:=by
   have:(eT c W).getD i []=(eT c W)[i]:=by simp[List.getD,hi]
   rw[this];exact List.getElem_mem hi
  obtain⟨h,e,-⟩:=eX.1 hm;rw[e];unfold aT;rw[List.length_map];exact List.length_filter_le _ _
 simp[List.getD,hi]
end aA
end Go.Proofs.YtkacjmoamgjfpaaGreat
namespace Go.Proofs.YtkacjmoamgjfpaaGreat.aA
section
variable {g : Gr} {p q : Pt} {aB same : List (List Int)}
end
end Go.Proofs.YtkacjmoamgjfpaaGreat.aA
namespace Go.Proofs.YtkacjmoamgjfpaaGreat
open Go.RowKit Go.Maps
namespace aA
theorem vE {g:Gr} {p q:Pt} {aB same:List (List Int)} (h:gE g p q aB same=0) (hqv:q.v.length≤60) (hqe:q.e.length≤60) (hT:aB.length≤100) (hr:∀ i,(aB.getD i []).length≤200) :
  (bA q.e aB).length≤100∧(∀ i,((bA q.e aB).getD i []).length≤200)∧bU (bA q.e aB) (bA q.e aB).length≤20000∧(cL g p q aB same).length≤1000∧∀ i,((cL g p q aB same).getD i []).length≤1000:=by
 have hl:(bA q.e aB).length≤100:=by unfold bA;rw[List.length_map];exact hT
 have hrr:∀ i,((bA q.e aB).getD i []).length≤200:=fun i=>Nat.le_trans (aAM q.e aB i) (hr i);obtain⟨hpz,hqer,hqvs,hqes⟩:=aCJ h;have hwl:=(bS hqer (uD (bC (bY (cX hpz).1).1).2 hqes)).len;have hs:=sW hrr (bA q.e aB).length;have hm:(bA q.e aB).length*200≤100*200:=Nat.mul_le_mul_right _ hl;refine⟨hl,hrr,by omega,Nat.le_trans yS.1 (by omega),fun i=>Nat.le_trans (yS.2 i) (by omega)⟩
end aA
end Go.Proofs.YtkacjmoamgjfpaaGreat
namespace Go.Proofs.YtkacjmoamgjfpaaGreat.aA
section
variable {g : Gr} {p q r : Pt} {aB same : List (List Int)}
end
end Go.Proofs.YtkacjmoamgjfpaaGreat.aA
namespace Go.Proofs.YtkacjmoamgjfpaaGreat
open Go.RowKit Go.Maps
namespace aA
end aA
end Go.Proofs.YtkacjmoamgjfpaaGreat
namespace Go.Proofs.YtkacjmoamgjfpaaGreat.aA
section
variable {g : Gr} {p q : Pt} {aB same : List (List Int)}
end
end Go.Proofs.YtkacjmoamgjfpaaGreat.aA
namespace Go.Proofs.YtkacjmoamgjfpaaGreat
open Go.RowKit Go.Maps
theorem zR (v:Value) (l:List Int) (B:Nat) (w:World) (hn:l.length<1000000000) (h:aM w B v l) :
  Calls Tryz.prog 78 #[v] w fun e w'=>e=.returned (.tuple #[])∧aM w' B v (l.mergeSort fun x y=>decide (x≤y))∧Chg v.ownBlock.toList w w':=by
 obtain⟨ao,c,rfl⟩:=h.shape;by_cases h0:l=[]
 ·subst h0
  refine (Tryz.slices_Sort_int_none ao c w).mono ?_;rintro e w' ⟨rfl,rfl⟩;exact⟨rfl,by rw[List.mergeSort_nil];exact h,Chg.refl _ _⟩
 obtain⟨g,cap,e⟩:=dP h.1 (List.length_pos_iff.2 h0);cases e;have hl:(ints l).length=l.length:=by simp[ints]
 have hown:=h.1;rw[←hl] at hown;have hH:Go.Sort.Holds (Value.int .i64) w g 0 l.toArray:=jC hown (by simp[ints]);have hg:g<w.heap.size:=gZ h.1 rfl;refine (Tryz.slices_Sort_int g 0 _ l w hH hg (by omega)).mono ?_;rintro e w' ⟨rfl,n,os,rfl⟩;have hs:(l.mergeSort fun x y=>decide (x≤y)).length=l.length:=(List.mergeSort_perm _ _).length_eq;have hso:=pJ (enc:=Value.int .i64) (n:=n) (os:=os) (d:=(l.mergeSort fun x y=>decide (x≤y)).toArray) hown (by simp[hs,hl]);refine⟨rfl,⟨?_,fun x hx=>h.2.1 x ((List.mergeSort_perm _ _).mem_iff.1 hx),by rw[hs];exact h.2.2⟩,?_⟩
 ·rw[hl] at hso
  rw[hs];exact hso
 exact iS (Value.int .i64) w g n os _
namespace aA
end aA
end Go.Proofs.YtkacjmoamgjfpaaGreat
