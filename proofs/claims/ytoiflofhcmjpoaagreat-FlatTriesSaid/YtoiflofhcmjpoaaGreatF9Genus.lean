/- package xt: the contract of Genus. Conditions: lists that lie in memory and read so, of a bounded size. -/
import Derived.Test.YtoiflofhcmjpoaaGreatF9Next
open List renaming idxOf_lt_length_iff→Qa,length_replicate→Qb,length_map→Qc,replicate→Qd
open Go.Value renaming int→Qe
-- READS ONLY
namespace Go.Proofs.YtoiflofhcmjpoaaGreat
open Go.RowKit Go.Maps
variable {w w2:World} {B n:Nat} {g:Plain.Gr} {p:Plain.Pt}
namespace Plain
variable {W:List bP}
theorem OM {k:Nat} (hk:k<W.length):W.take (k+1)=W.take k++[W.getD k (0,[])]:=by
 rw[List.take_succ_eq_append_getElem hk];simp[List.getD,hk]
theorem cN.len {g:Gr} {p:Pt} {aa:List (List Int)} (h:cN g p aa W):W.length<=p.v.length+2*p.e.length:=by
 obtain⟨F,rfl,ht⟩:=h.split;have h1:(cK aa p.v).length<=p.v.length:=by
  unfold cK;rw[Qc];refine Nat.le_trans (List.length_filter_le _ _) ?_;rw[List.length_reverse];exact Nat.le_refl _
 have h2:=ht.keys.length_le;rw[Qc,ct] at h2;rw[List.length_append];omega
end Plain
theorem yc {g c i:Nat} {l:List Int} (h:aw w B (.slice (some ⟨g,0,none⟩) n c) l) (hi:i<l.length):w.cell? ⟨g,i,none⟩=some (.int .i64 (l.getD i 0)):=by
 obtain⟨g',e,hc⟩:=h.some (by omega);simp only[Option.some.injEq,Addr.mk.injEq] at e;obtain⟨rfl,-,-⟩:=e;exact hc i hi
theorem tL {fb c:Nat} (h:w.ownsRow B 3 1 (.slice (some ⟨fb,0,none⟩) n c) n (madeCells (Qe .i64 0).cells (n*1)).toList) (hn:n<4294967296):aw w B (.slice (some ⟨fb,0,none⟩) n c) (Qd n 0):=by
 have e1:(madeCells (Qe .i64 0).cells (n*1)).toList=ints (Qd n 0):=by
  show (madeCells #[Qe .i64 0] (n*1)).toList=_;rw[Nat.mul_one,toList_madeCells_one];simp[ints]
 rw[e1] at h;refine⟨by rw[Qb];exact h,λx hx=>?_,by rw[Qb];exact hn⟩;have:=List.eq_of_mem_replicate hx;subst this;exact bF.mk (by omega) (by omega)
theorem CL (w:World) {eo ao bo:Option Addr} {cap ac bc:Nat} (h:ai [] ((w.alloc (.cells #[.int .i64 g.n,.slice eo g.e.length cap] 24)).alloc (.cells #[.slice ao p.v.length ac,.slice bo p.e.length bc] 27)) w2) :
  w2.cell? ⟨w.heap.size,0,none⟩=some (.int .i64 g.n)/\w2.cell? ⟨w.heap.size,1,none⟩=some (.slice eo g.e.length cap)/\w2.cell? ⟨w.heap.size+1,0,none⟩=some (.slice ao p.v.length ac)/\w2.cell? ⟨w.heap.size+1,1,none⟩=some (.slice bo p.e.length bc)/\w.heap.size+2<=w2.heap.size:=by
 obtain⟨iz,gY,-⟩:=iW w #[.int .i64 g.n,.slice eo g.e.length cap] #[.slice ao p.v.length ac,.slice bo p.e.length bc] 24 27;have hs:=h.size;exact⟨h.c ((cell_of_row _ _ 0 _ _ _ iz).trans rfl),h.c ((cell_of_row _ _ 1 _ _ _ iz).trans rfl),h.c ((cell_of_row _ _ 0 _ _ _ gY).trans rfl),h.c ((cell_of_row _ _ 1 _ _ _ gY).trans rfl),by grind⟩
theorem eF {vg vp:Value} (hg:cA w vg g) (hp:dt w vp p):∃ eo cap ao ac bo bc,vg=.agg #[.int .i64 g.n,.slice eo g.e.length cap]/\vp=.agg #[.slice ao p.v.length ac,.slice bo p.e.length bc]/\Hid (cA w (.agg #[.int .i64 g.n,.slice eo g.e.length cap]) g)/\Hid (dt w (.agg #[.slice ao p.v.length ac,.slice bo p.e.length bc]) p)/\g.e.length<=9223372036854775807/\p.v.length<=9223372036854775807/\p.e.length<=9223372036854775807 /\
  Hid (p.v≠[]->∃ b off,ao=some ⟨b,off,none⟩/\∀ i,i<p.v.length->w.cell? ⟨b,off+i,none⟩=some (.int .i64 (p.v.getD i 0)))/\Hid (p.e≠[]->∃ b off,bo=some ⟨b,off,none⟩/\∀ i,i<p.e.length->w.cell? ⟨b,off+i,none⟩=some (.int .i64 (p.e.getD i 0)))/\Hid (∀ x∈p.v,bF x)/\Hid (∀ x∈p.e,bF x) /\
  Hid (ai [] w ((w.alloc (.cells #[.int .i64 g.n,.slice eo g.e.length cap] 24)).alloc (.cells #[.slice ao p.v.length ac,.slice bo p.e.length bc] 27)))/\Hid (∀ w2,ai [] ((w.alloc (.cells #[.int .i64 g.n,.slice eo g.e.length cap] 24)).alloc (.cells #[.slice ao p.v.length ac,.slice bo p.e.length bc] 27)) w2 ->
   w2.cell? ⟨w.heap.size,0,none⟩=some (.int .i64 g.n)/\w2.cell? ⟨w.heap.size,1,none⟩=some (.slice eo g.e.length cap)/\w2.cell? ⟨w.heap.size+1,0,none⟩=some (.slice ao p.v.length ac)/\w2.cell? ⟨w.heap.size+1,1,none⟩=some (.slice bo p.e.length bc)/\w.heap.size+2<=w2.heap.size):=by
 have Yv:=hg;have hp0:=hp;obtain⟨eo,cap,rfl,-,hm,-,-⟩:=hg;obtain⟨v1,v2,rfl,hv,he⟩:=hp;obtain⟨ao,ac,rfl,has,uJ,rQ⟩:=hv;obtain⟨bo,bc,rfl,xW,oJ,gh⟩:=he;exact⟨eo,cap,ao,ac,bo,bc,rfl,rfl,lh Yv,lh hp0,hm,uJ,oJ,lh rQ,lh gh,lh has,lh xW,lh (iW w _ _ _ _).2.2,lh λw2 h=>CL w h⟩
end Go.Proofs.YtoiflofhcmjpoaaGreat
-- READS ONLY
namespace Go.Proofs.YtoiflofhcmjpoaaGreat
open Go.RowKit Go.Maps
variable {k x y:Int} {s:St}
namespace Plain
end Plain
theorem dx.ya {w:World} {b n:Nat} {f:Int->Option Int} (h:dx w b n f) (hk:bF k):(Instr.lookup 124 (.map (some b)) (.int .i64 k) false).run Tryz.prog w=.ok (.int .i64 ((f k).getD 0)) w:=by
 obtain⟨D,b9,hD⟩:=h;obtain⟨c,ke,eJ,-⟩:=b9.lookup_int dX Tryz.underlying124 Tryz.underlying3 (xG _) (keyOf_int_mk Tryz.underlying3 hk);rw[(hD k hk).2] at eJ;cases eJ;exact ke
theorem St.Ok.IU (h:x∈s.all):s.all.idxOf x<s.all.length:=by grind
theorem St.Ok.Mu (h:s.Ok) (hx:x∈s.all):s.hd (s.all.idxOf x)<s.all.length:=by
 have:=h.le (s.all.idxOf x) (by rw[<-h.len];exact St.Ok.IU hx)
 grind
theorem St.wM (s:St) (x y:Int):x∈((s.put x).put y).all/\y∈((s.put x).put y).all:=by grind [St.lF,St.nD]
theorem St.Xh (hx:x∈s.all) (hy:y∈s.all):s.join x y=⟨s.all,relabel s.dY (s.hd (s.all.idxOf x)) (s.hd (s.all.idxOf y))⟩/\s.FV x y=(s.hd (s.all.idxOf x) != s.hd (s.all.idxOf y)):=by
 grind [St.kn,St.join,St.FV]
theorem St.Ok.up (h:s.Ok):Up s.dY s.dY:=⟨rfl,λi hi=>⟨h.le i hi,by
 have:=h.own i hi;simp only[St.hd] at this;split
 ·assumption
 exact this.symm⟩⟩
theorem St.Rr:St.Ok ⟨[],[]⟩:=⟨rfl,List.nodup_nil,by simp,by simp⟩
theorem St.Ok.put (h:s.Ok) (x:Int):(s.put x).Ok:=by
 by_cases hx:x∈s.all
 ·rwa[St.kn hx]
 rw[St.e8 hx];have hu:=h.up.put;have hl:=h.len;refine⟨by simp[hl],by rw[List.nodup_append];exact⟨h.nodup,by simp,by intro a ha b hb;simp at hb;subst hb;rintro rfl;exact hx ha⟩,λi hi=>?_,λi hi=>?_⟩
 ·have:=hu.le i (by simpa using hi);simpa[St.hd,hl] using this.1
 have:=hu.own (i:=i) (by simpa using hi);simpa[St.hd,hl] using this
theorem St.Ok.join (h:s.Ok) (x y:Int):(s.join x y).Ok:=by
 have ht:=(h.put x).put y;have hm:=s.wM x y;show St.Ok ⟨((s.put x).put y).all,relabel ((s.put x).put y).dY (((s.put x).put y).hd (((s.put x).put y).all.idxOf x)) (((s.put x).put y).hd (((s.put x).put y).all.idxOf y))⟩;generalize (s.put x).put y=t at *;have hi:=ht.Mu hm.1;have hj:=ht.Mu hm.2;have ei:=ht.own (t.all.idxOf x) (by rw[<-ht.len];exact Qa.2 hm.1);have ej:=ht.own (t.all.idxOf y) (by rw[<-ht.len];exact Qa.2 hm.2);generalize t.hd (t.all.idxOf x)=a at *;generalize t.hd (t.all.idxOf y)=b at *;by_cases qD:a=b
 ·subst qD
  rw[tj];exact ht
 have hu:=ht.up.join (i:=a) (j:=b) (by rw[<-ht.len];exact hi) (by rw[<-ht.len];exact hj) ei ej qD;have hl:(relabel t.dY a b).length=t.dY.length:=by simp[relabel]
 refine⟨by simp only[hl,ht.len],ht.nodup,λi hi=>?_,λi hi=>?_⟩
 ·exact (hu.le i (by grind)).1
 exact hu.own (by grind)
theorem St.ZS (l:List Int):(St.new l).Ok:=by
 have:∀ (l:List Int) (s:St),s.Ok->(l.foldl St.put s).Ok:=by
  intro l
  induction l with
  | nil=>intro s h;exact h
  | cons x r ih=>intro s h;exact ih _ (h.put x)
 exact this l _ St.Rr
namespace Plain
def Lz (same:List (List Int)) (i:Nat):Prop:=(same.getD i []).length<2\/(0<i/\(same.getD i []).getD 0 0<=(same.getD (i - 1) []).getD 0 0)
instance (same:List (List Int)) (i:Nat):Decidable (Lz same i):=by unfold Lz;infer_instance
def mr (n:Nat):List Int:=(List.range n).map λ(i:Nat)=>(i:Int)
structure apW (ow:Int->Option Int) (n:Nat) (t:Nat) (c:St × List Int):Prop where
 ok:c.1.Ok
 all:c.1.all=mr n
 num:c.1.count+c.2.length=n+t
 nodup:c.2.Nodup
 has:∀ k∈c.2,(ow k).isSome=true
