/- What two parts have in common, what either has: parts again; plainly. No program here. -/
import Derived.Test.YtbkjljffnkdcjaaGreatD9Ext
open Go.Act renaming put→Qa
open List renaming all_eq_true→Qb,range→Qc,mem_range→Qd,mem_cons→Qf
open Bool renaming false_or→Qe
open Go.Value renaming slice→Qg
namespace Go.Proofs.YtbkjljffnkdcjaaGreat.Plain
theorem CU {l:List Int} {n:Int} (h:l.Pairwise (·<·)) (hb:∀ x∈l,0<=x/\x<n):fI l n=true:=by
 unfold fI;rw[Qb];intro i hi;have hi:=Qd.1 hi;obtain⟨h1,h2⟩:=hb _ (aZ hi);unfold iK;rw[decide_eq_false (by omega),decide_eq_false (by omega),Qe,Qe];by_cases h0:0<i
 ·have:=List.pairwise_iff_getElem.1 h (i - 1) i (by omega) hi (by omega)
  have e1:l.getD (i - 1) 0=l[i - 1]:=by simp[List.getD,(by omega:i - 1<l.length)]
  have e2:l.getD i 0=l[i]:=by simp[List.getD,hi]
  rw[decide_eq_false (p:=l.getD i 0<=l.getD (i - 1) 0) (by rw[e1,e2];omega),Bool.and_false];rfl
 rw[decide_eq_false h0,Bool.false_and];rfl
theorem DS {l:List Int} {n:Int} (h:fI l n=true):∀ x∈l,0<=x/\x<n:=fun x hx=>by
 obtain⟨i,hi,rfl⟩:=bO hx;have:=ct h hi;exact⟨this.1,this.2.1⟩
theorem Pt.sJ {g:Gr} {p:Pt} (h0:g.err=0) (hv:fI p.v g.n=true) (he:fI p.e g.e.length=true) (hi:∀ e∈p.e,(g.ends e.toNat).1∈p.v/\(g.ends e.toNat).2∈p.v):p.err g=0:=by
 unfold Pt.err;rw[if_neg (by simp[h0]),if_neg (by simp[hv,he]),if_pos];rw[Qb];intro i hx;obtain⟨h1,h2⟩:=hi _ (aZ (Qd.1 hx));unfold Pt.fe;rw[decide_eq_true h1,decide_eq_true h2];rfl
theorem Pt.JS {g:Gr} {p:Pt} (h:p.err g=0):∀ e∈p.e,(g.ends e.toNat).1∈p.v/\(g.ends e.toNat).2∈p.v:=fun e he=>by
 obtain⟨i,hi,rfl⟩:=bO he;exact (Pt.aP h).2.2.2 i hi
def ud (a b:Pt):Pt:=⟨AV b.v a.v,AV b.e a.e⟩
theorem oL {x:Int} {a b:List Int}:x∈AV b a↔x∈a/\x∈b:=by unfold AV;rw[List.mem_filter,decide_eq_true_iff]
theorem Lf {g:Gr} {a b:Pt} (ha:a.err g=0) (hb:b.err g=0):(ud a b).err g=0:=by
 obtain⟨h0,h1,h2,-⟩:=Pt.aP ha;refine Pt.sJ h0 (dH h1 _) (dH h2 _) fun e he=>?_;obtain⟨k1,k2⟩:=oL.1 he;have a1:=Pt.JS ha e k1;have b1:=Pt.JS hb e k2;exact⟨oL.2 ⟨a1.1,b1.1⟩,oL.2 ⟨a1.2,b1.2⟩⟩
theorem oH {g:Gr} {p:Pt} (h:p.err g=0):p.v.Pairwise (·<·)/\p.e.Pairwise (·<·):=⟨bY (Pt.aP h).2.1,bY (Pt.aP h).2.2.1⟩
end Go.Proofs.YtbkjljffnkdcjaaGreat.Plain
namespace Go.Proofs.YtbkjljffnkdcjaaGreat
open Go.RowKit Go.Maps
def Mn (w:World) (v:Value) (p:Plain.Pt):Prop:=∃ v1 v2,v=.agg #[v1,v2]/\kf w v1 p.v/\kf w v2 p.e
theorem Mn.at {w:World} {v:Value} {p:Plain.Pt} (h:Mn w v p):gD w v p:=by
 obtain⟨v1,v2,e,h1,h2⟩:=h;exact⟨v1,v2,e,h1.1,h2.1⟩
theorem Mn.fresh {w w':World} {v:Value} {p:Plain.Pt} (h:Mn w v p) (hc:ai [] w w'):Mn w' v p:=by
 obtain⟨v1,v2,e,h1,h2⟩:=h;exact⟨v1,v2,e,h1.fresh hc,h2.fresh hc⟩
theorem kf.shape {w:World} {v:Value} {l:List Int} (h:kf w v l):∃ ao c,v=.slice ao l.length c:=by
 obtain⟨⟨ao,c,e,-⟩,-⟩:=h;exact⟨ao,c,e⟩
theorem Mn.shape {w:World} {v:Value} {p:Plain.Pt} (h:Mn w v p):∃ ao ac bo bc,v=.agg #[.slice ao p.v.length ac,.slice bo p.e.length bc]:=by
 obtain⟨v1,v2,rfl,h1,h2⟩:=h;obtain⟨ao,ac,rfl⟩:=h1.shape;obtain⟨bo,bc,rfl⟩:=h2.shape;exact⟨ao,ac,bo,bc,rfl⟩
namespace Plain
end Plain
theorem It {wr:World} {b:Nat} {a0 a1:Value} {t:TypeId} (hb:wr.heap[b]?=some (.cells #[a0,a1] t (0,0))) (u v:Value) :
  ((wr.setCell ⟨b,0,none⟩ u).setCell ⟨b,1,none⟩ v).heap[b]?=some (.cells #[u,v] t (0,0))/\((wr.setCell ⟨b,0,none⟩ u).setCell ⟨b,1,none⟩ v).cell? ⟨b,0,none⟩=some u/\((wr.setCell ⟨b,0,none⟩ u).setCell ⟨b,1,none⟩ v).cell? ⟨b,1,none⟩=some v/\ai [b] wr ((wr.setCell ⟨b,0,none⟩ u).setCell ⟨b,1,none⟩ v):=by
 have hh:=heap_setCell_same (heap_setCell_same hb 0 u) 1 v;exact⟨hh,(cell_of_row _ _ 0 _ _ _ hh).trans rfl,(cell_of_row _ _ 1 _ _ _ hh).trans rfl,((ai.refl _ wr).setCell (Or.inl (by simp)) _).setCell (Or.inl (by simp)) _⟩
theorem kf.sV {w w':World} {B:Nat} {v:Value} {l:List Int} {own:List Nat} (h:ax w B v l) (hc:ai own w w') (ho:∀ j∈own,j<B):kf w' v l:=by
 have h2:=h.aM hc (fun b hb e=>by have:=(h.low b hb).1;have:=ho b e;omega);exact⟨h2.ints,nX.row h2⟩
set_option maxRecDepth 100000 in
set_option maxHeartbeats 2000000 in
theorem Tx (va vb:Value) (a b:Plain.Pt) (w:World) (h1:a.v.length<=1000000) (h2:a.e.length<=1000000) (h3:b.v.length<=1000000) (h4:b.e.length<=1000000) (ha:Mn w va a) (hb:Mn w vb b) :
  Calls Tryz.prog 34 #[va,vb] w fun e w'=>∃ ov,e=.returned ov/\(∀ own wx,ai own w' wx->(∀ j∈own,j<w.heap.size)->Mn wx ov ⟨Plain.bp false a.v b.v,Plain.bp false a.e b.e⟩)/\ai [] w w':=by
 have HA:=lh ha;have HB:=lh hb;obtain⟨ao,ac,bo,bc,rfl⟩:=ha.shape;obtain⟨co,cc,fo,fc,rfl⟩:=hb.shape;clear ha hb;have eV:=lh (show ai [] w (((w.alloc (.cells #[.slice ao a.v.length ac,.slice bo a.e.length bc] 27)).alloc (.cells #[.slice co b.v.length cc,.slice fo b.e.length fc] 27)).alloc (.cells #[.slice none 0 0,.slice none 0 0] 27)) from (show ai [] w (((w.alloc (.cells #[.slice ao a.v.length ac,.slice bo a.e.length bc] 27)).alloc (.cells #[.slice co b.v.length cc,.slice fo b.e.length fc] 27)).alloc (.cells #[.slice none 0 0,.slice none 0 0] 27)) from ((((ai.refl [] w).alloc _).alloc _).alloc _)));have cK:=heap_alloc_new w (.cells #[.slice ao a.v.length ac,.slice bo a.e.length bc] 27);replace cK:=(show ai [] (w.alloc (.cells #[.slice ao a.v.length ac,.slice bo a.e.length bc] 27)) (((w.alloc (.cells #[.slice ao a.v.length ac,.slice bo a.e.length bc] 27)).alloc (.cells #[.slice co b.v.length cc,.slice fo b.e.length fc] 27)).alloc (.cells #[.slice none 0 0,.slice none 0 0] 27)) from (((ai.refl [] (w.alloc (.cells #[.slice ao a.v.length ac,.slice bo a.e.length bc] 27))).alloc _).alloc _)).heap cK (by simp);have eN:=heap_alloc_new (w.alloc (.cells #[.slice ao a.v.length ac,.slice bo a.e.length bc] 27)) (.cells #[.slice co b.v.length cc,.slice fo b.e.length fc] 27);rw[show (w.alloc (.cells #[.slice ao a.v.length ac,.slice bo a.e.length bc] 27)).heap.size=w.heap.size+1 by simp] at eN;replace eN:=(show ai [] ((w.alloc (.cells #[.slice ao a.v.length ac,.slice bo a.e.length bc] 27)).alloc (.cells #[.slice co b.v.length cc,.slice fo b.e.length fc] 27)) (((w.alloc (.cells #[.slice ao a.v.length ac,.slice bo a.e.length bc] 27)).alloc (.cells #[.slice co b.v.length cc,.slice fo b.e.length fc] 27)).alloc (.cells #[.slice none 0 0,.slice none 0 0] 27)) from ((ai.refl [] ((w.alloc (.cells #[.slice ao a.v.length ac,.slice bo a.e.length bc] 27)).alloc (.cells #[.slice co b.v.length cc,.slice fo b.e.length fc] 27))).alloc _)).heap eN (by simp);have vf:=heap_alloc_new ((w.alloc (.cells #[.slice ao a.v.length ac,.slice bo a.e.length bc] 27)).alloc (.cells #[.slice co b.v.length cc,.slice fo b.e.length fc] 27)) (.cells #[.slice none 0 0,.slice none 0 0] 27);rw[show ((w.alloc (.cells #[.slice ao a.v.length ac,.slice bo a.e.length bc] 27)).alloc (.cells #[.slice co b.v.length cc,.slice fo b.e.length fc] 27)).heap.size=w.heap.size+2 by simp] at vf;have HX:=lh (fun (w2:World) (dL:ai [] (((w.alloc (.cells #[.slice ao a.v.length ac,.slice bo a.e.length bc] 27)).alloc (.cells #[.slice co b.v.length cc,.slice fo b.e.length fc] 27)).alloc (.cells #[.slice none 0 0,.slice none 0 0] 27)) w2)=>(⟨dL.c ((cell_of_row _ _ 0 _ _ _ cK).trans rfl),dL.c ((cell_of_row _ _ 1 _ _ _ cK).trans rfl),dL.c ((cell_of_row _ _ 0 _ _ _ eN).trans rfl),dL.c ((cell_of_row _ _ 1 _ _ _ eN).trans rfl),dL.heap vf (by simp),by have hz:=dL.size;simpa using hz⟩:w2.cell? ⟨w.heap.size,0,none⟩=some (.slice ao a.v.length ac)/\w2.cell? ⟨w.heap.size,1,none⟩=some (.slice bo a.e.length bc)/\w2.cell? ⟨w.heap.size+1,0,none⟩=some (.slice co b.v.length cc)/\w2.cell? ⟨w.heap.size+1,1,none⟩=some (.slice fo b.e.length fc)/\w2.heap[w.heap.size+2]?=some (.cells #[.slice none 0 0,.slice none 0 0] 27 (0,0))/\w.heap.size+3<=w2.heap.size));clear cK eN vf;have CK:=lh (show (((w.alloc (.cells #[.slice ao a.v.length ac,.slice bo a.e.length bc] 27)).alloc (.cells #[.slice co b.v.length cc,.slice fo b.e.length fc] 27)).alloc (.cells #[.slice none 0 0,.slice none 0 0] 27)).heap.size=w.heap.size+3 by simp);have Bb:=lh (show ∀ w2,ai [] w w2->kf w2 (.slice ao a.v.length ac) a.v/\kf w2 (.slice bo a.e.length bc) a.e from fun w2 h=>by
  obtain⟨v1,v2,e,k1,k2⟩:=HA.out.fresh h;cases e;exact⟨k1,k2⟩)
 have mD:=lh (show ∀ w2,ai [] w w2->kf w2 (.slice co b.v.length cc) b.v/\kf w2 (.slice fo b.e.length fc) b.e from fun w2 h=>by
  obtain⟨v1,v2,e,k1,k2⟩:=HB.out.fresh h;cases e;exact⟨k1,k2⟩)
 obtain⟨x0,x1,y0,y1,r8,di⟩:=HX.out _ (ai.refl _ _);clear r8
 go_enter Tryz.func34,Tryz.ntmps34
 go_wp2;generalize (((w.alloc (.cells #[.slice ao a.v.length ac,.slice bo a.e.length bc] 27)).alloc (.cells #[.slice co b.v.length cc,.slice fo b.e.length fc] 27)).alloc (.cells #[.slice none 0 0,.slice none 0 0] 27))=w1 at *;have aD:ai [] w1 w1.drew:=(ai.refl [] w1).drew;refine au (ai [] w1) [0,1,2,3,5,6,7,8,10] (Way.line [0,1,2,3,5,6,7,8,4,9,10,11] .done) (by kernel_rfl) (by kernel_rfl) ?_;simp only[Way.line]
 repeat
  first
   | (refine ar rfl (by rfl) (by rfl) (fun _ _ _ h=>h) aD ?_;simp only[Qa,Z1,Z2,Z3,Z4,Z5,Z6])
   | (refine aq (v:=?_) rfl (by rfl) (by rfl) (fun _ _ _ h=>h) aD (fun w' aK=>?_) ?_;rotate_left;(focus (have fU:=aK.c x0;have gX:=aK.c x1;have nP:=aK.c y0;have Fx:=aK.c y1;clear aK;go_simp;try with_reducible rfl));simp only[Qa,Z1,Z2,Z3,Z4,Z5,Z6])
   | (refine ak rfl (by rfl) (by rfl) aD ?_;simp only[Qa,Z1,Z2,Z3,Z4,Z5,Z6])
 refine aC rfl (by rfl) (by rfl) (fun K hK=>?_);go_simp;refine (zC _ _ a.v b.v false _ h1 h3 (Bb.out _ (eV.out.t aD)).1 (mD.out _ (eV.out.t aD)).1).mono ?_;rintro e w2 ⟨o1,rfl,fz,lJ⟩;have Sf:=lh fz;have HBW:=lh (Nat.le_trans (HX.out _ aD).2.2.2.2.2 (Nat.le_refl _));have bD:=aD.t lJ;have HO1:=lh (show w.heap.size+3<=w2.heap.size from (HX.out _ bD).2.2.2.2.2);clear aD lJ fz;have aD:=bD;clear bD;refine hK.out _ _ (fun _=>aD) ?_;clear hK K
 try simp only[Qa,Z1,Z2,Z3,Z4,Z5,Z6]
 refine aC rfl (by rfl) (by rfl) (fun K hK=>?_);go_simp;refine (zC _ _ a.e b.e false _ h2 h4 (Bb.out _ (eV.out.t aD)).2 (mD.out _ (eV.out.t aD)).2).mono ?_;rintro e w3 ⟨o2,rfl,cH,lJ⟩;have y7:=lh cH;have afp:=lh (Sf.out.aM lJ (by simp));have bD:=aD.t lJ;clear aD lJ cH;have aD:=bD;clear bD;refine hK.out _ _ (fun _=>aD) ?_;clear hK K
 try simp only[Qa,Z1,Z2,Z3,Z4,Z5,Z6]
 obtain⟨p1,q1,rfl⟩:=afp.out.shape;obtain⟨p2,q2,rfl⟩:=y7.out.shape
 repeat
  first
   | (refine ar rfl (by rfl) (by rfl) (fun _ _ _ h=>h) aD ?_;simp only[Qa,Z1,Z2,Z3,Z4,Z5,Z6])
   | (refine aq (v:=?_) rfl (by rfl) (by rfl) (fun _ _ _ h=>h) aD (fun w' aK=>?_) ?_;rotate_left;(focus (skip;clear aK;go_simp;try with_reducible rfl));simp only[Qa,Z1,Z2,Z3,Z4,Z5,Z6])
   | (refine ak rfl (by rfl) (by rfl) aD ?_;simp only[Qa,Z1,Z2,Z3,Z4,Z5,Z6])
 have S0:=(HX.out _ aD).2.2.2.2.1;have HR8:=lh S0;have r0:=(cell_of_row _ _ 0 _ _ _ S0).trans (show _=some (Qg none 0 0) from rfl);have r1:=(cell_of_row _ _ 1 _ _ _ S0).trans (show _=some (Qg none 0 0) from rfl);have f0:=bJ S0 0;have f1:=bJ S0 1;have xo:=lh (eV.out.t aD);refine aC rfl (by rfl) (by rfl) (fun K hK=>?_);go_simp;refine hK.out _ _ (fun h=>absurd h (Bool.eq_false_iff.1 (by kernel_rfl))) ?_;clear hK K S0
 try simp only[Qa,Z1,Z2,Z3,Z4,Z5,Z6]
 refine aB ?_;clear x0 x1 y0 y1 di aD r0 r1 f0 f1;obtain⟨-,o0,o1,o2⟩:=It HR8.out (.slice p1 (Plain.bp false a.v b.v).length q1) (.slice p2 (Plain.bp false a.e b.e).length q2);have O2:=lh o2;go_wp2;refine bodyPost_ret (v:=.agg #[.slice p1 (Plain.bp false a.v b.v).length q1,.slice p2 (Plain.bp false a.e b.e).length q2]) (by simp[results,Tryz.results34,go_sem,o0,o1]) rfl ?_;refine⟨_,rfl,fun own wx lJ ho=>?_,xo.out.trans O2.out (fun j hj=>Or.inr (by simp at hj;omega))⟩;have jM:ai ((w.heap.size+2) :: own) w3 wx:=(O2.out.mono (by simp)).trans lJ (fun j hj=>Or.inl (List.mem_cons_of_mem _ hj));have jv:=HX.out;refine⟨_,_,rfl,kf.sV afp.out jM (fun j hj=>?_),kf.sV y7.out jM (fun j hj=>?_)⟩
 ·rcases Qf.1 hj with e | e
  ·have:=HBW.out;omega
  have:=ho j e;have:=HBW.out;omega
 rcases Qf.1 hj with e | e
 ·have:=HO1.out;omega
 have:=ho j e;have:=HO1.out;omega
end Go.Proofs.YtbkjljffnkdcjaaGreat
namespace Go.Proofs.YtbkjljffnkdcjaaGreat
open Go
section
variable {P : Program} {ops : Array Oper} {Q : Exit -> Act -> World -> Prop} {md : Region.Mode} {w0 : World} {fr : (Nat -> Value) -> Act} {z : Nat} {fin : List Nat}
def Calm (p:Value->World->Prop):Prop:=∀ u w w',ai [] w w'->p u w->p u w'
def Jr (md:Region.Mode) (ops:Array Oper) (deps:List (List Nat)) (fin:List Nat):Bool :=
 let n:=ops.size
 apart ops.toList&&deps.length+1==n&&((Qc n).all fun i=>(kP md ops i).all fun x=>decide (x<i)) &&
 ((Qc (n - 1)).all fun i=>(deps.getD i []).all fun x=>(kP md ops i).contains x) &&
 ((Qc n).all fun j=>j==n - 1 || (reach md ops n (kP md ops (n - 1))).contains j)&&(fin.all fun x=>decide (x<n - 1))
end
end Go.Proofs.YtbkjljffnkdcjaaGreat
namespace Go.Proofs.YtbkjljffnkdcjaaGreat
open Go.ChangeShapes Go.WideShapes Go.ChangeAt Go.RowKit Go.Deep Go.Joins
section
variable {H : Type} {enc : TypeId × Value -> H} {w : World} {base : Nat} {held : Bool}
set_option maxRecDepth 100000 in
theorem Cv {r:Reach} {b0:Nat} {v:Value} {d:DataW H} {p:List MemPlace} (hv:Value.okWide Tryz.prog w r b0 27 v) (h:DataW.Trod enc Tryz.prog w base (fun _=>true) held 27 v d p):∃ g,Mn w v g:=by
 obtain⟨c0,c1,y0,y1,n,rfl,-,-,h0,h1⟩:=open_agg2 Tryz.underlying27 (by kernel_rfl) (by kernel_rfl) hv h;obtain⟨l0,k0,q0⟩:=tp h0;obtain⟨l1,k1,q1⟩:=tp h1;exact⟨⟨l0,l1⟩,c0,c1,rfl,⟨k0,q0⟩,⟨k1,q1⟩⟩
end
end Go.Proofs.YtbkjljffnkdcjaaGreat
