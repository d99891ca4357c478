/- A region that draws its order, whose operations read, or make what then stays: walked one operation at a time, each from whatever the others have left. No program here. -/
import Derived.Deep.RegionHeld3
import Derived.Test.YtoiflofhcmjpoaaGreatD9Perm
import Derived.Shelf.Small.Bits
import Derived.Shelf.Small.Wraps
import Derived.Shelf.Strconv.Itoa0
import Derived.Shelf.Sort.Plain
import Derived.Shelf.Slices.Turned
import Derived.Shelf.Slices.Reverse
import Derived.Shelf.Slices.Equal
import Derived.Ground.Names2Prog
import Derived.Shelf.Slices.Clone
import Derived.Shelf.Slices.CompactI
import Derived.Shelf.Slices.SearchI
import Derived.Shelf.Slices.Delete
import Derived.Shelf.Slices.Cells
import Derived.Shelf.Slices.In.SortNone
import Derived.Shelf.Slices.Empties
import Derived.Shelf.Slices.Empties2
import Derived.Ground.SlsfProg
import Derived.Shelf.SlSortCmp.Insertion
import Derived.Shelf.SlSortCmp.SiftDown1
import Derived.Shelf.SlSortCmp.HeapSort1
import Derived.Shelf.SlSortCmp.Insertion1
import Derived.Shelf.SlSortCmp.Median1
import Derived.Shelf.SlSortCmp.Pivot1
import Derived.Shelf.SlSortCmp.ReverseRange1
import Derived.Shelf.SlSortCmp.PartialInsertion1
import Derived.Shelf.SlSortCmp.PartitionEqual1
import Derived.Shelf.SlSortCmp.Partition1
import Derived.Shelf.SlSortCmp.Pdq1
import Derived.Shelf.SlSortCmp.Whole1
import Derived.Shelf.SlSortCmp.NoneTotal
import Derived.Test.YtoiflofhcmjpoaaGreatProg
open Bool renaming and_eq_true→Qa
open Go.Value renaming int→Qb
open Array renaming setIfInBounds_comm→Qc
open Nat renaming add_le_add_iff_right→Qd,add_zero→Qg,zero_le→Qh
open List renaming range→Qe,replicate→Qf
open Go.Act renaming put→Qi
namespace Go.Proofs.YtoiflofhcmjpoaaGreat
open Go
section
variable {P : Program} {ops : Array Oper} {Q : Exit -> Act -> World -> Prop} {md : Region.Mode}
def iF (aH:Nat->Value):Nat->List Oper->Act->Act
 | _,[],a=>a
 | i,o :: r,a=>iF aH (i+1) r (a.put o.dst (aH i))
theorem put_comm (a:Act) {d e:Option Nat} (u v:Value) (h:∀ x,d=some x->e≠some x):(a.put d u).put e v=(a.put e v).put d u:=by
 cases d with
 | none=>rfl
 | some x =>
  cases e with
  | none=>rfl
  | some y =>
   have:x≠y:=fun q=>h x rfl (by rw[q]);simp only[Qi,Qc _ _ this]
theorem SI (a:Act) (d:Option Nat) (u v:Value):(a.put d u).put d v=a.put d v:=by
 cases d with
 | none=>rfl
 | some x=>simp only[Qi,Array.setIfInBounds_setIfInBounds]
theorem yA (aH:Nat->Value) (d:Option Nat) (v:Value):∀ (l:List Oper) (i:Nat) (a:Act),(∀ o∈l,∀ x,d=some x->o.dst≠some x)->iF aH i l (a.put d v)=(iF aH i l a).put d v
 | [],_,_,_=>rfl
 | o :: r,i,a,h=>by
  simp only[iF];rw[put_comm a v (aH i) (h o (by simp)),yA aH d v r (i+1) _ (fun o ho=>h o (by simp[ho]))]
def nV (aH:Nat->Value) (i:Nat) (v:Value):Nat->Value:=fun j=>if j=i then v else aH j
theorem rT (aH:Nat->Value) (k:Nat) (v:Value):∀ (l:List Oper) (i:Nat) (a:Act),k<i->iF (nV aH k v) i l a=iF aH i l a
 | [],_,_,_=>rfl
 | o :: r,i,a,h=>by
  simp only[iF];rw[rT aH k v r (i+1) _ (by omega),show nV aH k v i=aH i from if_neg (by omega)]
def apart:List Oper->Bool
 | []=>true
 | o :: r=>(match o.dst with | none=>true | some x=>r.all fun p=>p.dst != some x)&&apart r
theorem apart_spec {o:Oper} {r:List Oper} (h:apart (o :: r)=true):(∀ p∈r,∀ x,o.dst=some x->p.dst≠some x)/\apart r=true:=by
 grind [apart]
theorem yj (aH:Nat->Value) (v:Value):∀ (l:List Oper) (i k:Nat) (o:Oper) (a:Act),apart l=true->l[k]?=some o->iF (nV aH (i+k) v) i l a=(iF aH i l a).put o.dst v
 | [],_,_,_,_,_,hk=>by simp at hk
 | p :: r,i,0,o,a,ha,hk=>by
  simp only[List.getElem?_cons_zero,Option.some.injEq] at hk;subst hk;have:=apart_spec ha;simp only[iF,Qg];rw[rT aH i v r (i+1) _ (by omega),show nV aH i v i=v from if_pos rfl,<-SI a p.dst (aH i) v,yA aH p.dst v r (i+1) _ this.1]
 | p :: r,i,k+1,o,a,ha,hk=>by
  simp only[List.getElem?_cons_succ] at hk;simp only[iF];rw[show nV aH (i+(k+1)) v i=aH i from if_neg (by omega),show i+(k+1)=(i+1)+k by omega];exact yj aH v r (i+1) k o _ (apart_spec ha).2 hk
def held (a:Act) (o:Oper):Value:=match o.dst with | none=>undef | some x=>a.tmps.getD x undef
theorem Pm (a:Act) (o:Oper):a.put o.dst (held a o)=a:=by
 unfold held;cases hd:o.dst with
 | none=>rfl
 | some x =>
  simp only[Qi];have:a.tmps.setIfInBounds x (a.tmps.getD x undef)=a.tmps:=by
   apply Array.ext
   ·simp
   intro i h1 h2;rw[Array.getElem_setIfInBounds];split
   ·rename_i e;subst e;simp[Array.getD,h2]
   rfl
  rw[this]
theorem yZ (aH:Nat->Value) (a:Act):∀ (l:List Oper) (i:Nat),(∀ k o,l[k]?=some o->aH (i+k)=held a o)->iF aH i l a=a
 | [],_,_=>rfl
 | o :: r,i,h=>by
  simp only[iF];rw[show aH i=held a o by simpa using h 0 o rfl,Pm];exact yZ aH a r (i+1) (fun k p hk=>by rw[<-h (k+1) p (by simpa using hk)];congr 1;omega)
def fJ (L:List (Value->World->Prop)) (aH:Nat->Value) (w:World):List Nat->Prop
 | []=>True
 | d :: r=>(L.getD d (fun _ _=>True)) (aH d) w/\fJ L aH w r
structure Info where
 deps:List Nat
 con:List Nat
 lin:Bool
def aE:Value->List Nat
 | .agg vs=>vs.toList.flatMap fun v=>v.ownBlock.toList
 | v=>v.ownBlock.toList
theorem sm {L L':List (Value->World->Prop)} {aH:Nat->Value} {w:World}:∀ {d:List Nat},(∀ x∈d,L.getD x (fun _ _=>True)=L'.getD x (fun _ _=>True))->fJ L aH w d=fJ L' aH w d
 | [],_=>rfl
 | x :: r,h=>by
  simp only[fJ];rw[h x (by simp),sm (fun y hy=>h y (by simp[hy]))]
theorem ux {L:List (Value->World->Prop)} {aH:Nat->Value} {w:World}:∀ {d:List Nat},(∀ x∈d,(L.getD x (fun _ _=>True)) (aH x) w)->fJ L aH w d
 | [],_=>trivial
 | x :: r,h=>⟨h x (by simp),ux (fun y hy=>h y (by simp[hy]))⟩
variable {G : World -> Prop} {fr : (Nat -> Value) -> Act} {z : Nat} {fin : List Nat}
def jF (md:Region.Mode) (ops:Array Oper) (j:Nat):List Nat:=match ops[j]? with | none=>[] | some o=>(o.after.toList.filter (Region.binds md ·)).map (·.on)
def reach (md:Region.Mode) (ops:Array Oper):Nat->List Nat->List Nat
 | 0,l=>l
 | k+1,l=>reach md ops k (if l.contains k then l++jF md ops k else l)
theorem jD {j x:Nat}:x∈jF md ops j↔∃ o,ops[j]?=some o/\∃ e∈o.after,Region.binds md e=true/\e.on=x:=by
 grind [jF]
theorem my {ax:Array Bool} (nP:∀ j oj,ops[j]?=some oj->ax.getD j false=true->∀ e∈oj.after,Region.binds md e=true->ax.getD e.on false=true) :
  ∀ (k:Nat) (l:List Nat),(∀ x∈l,ax.getD x false=true)->∀ x∈reach md ops k l,ax.getD x false=true
 | 0,_,h=>h
 | k+1,l,h=>by
  unfold reach;refine my nP k _ ?_;split
  ·rename_i hc
   intro x hx;rcases List.mem_append.1 hx with q | q
   ·exact h x q
   obtain⟨o,ho,e,he,hb,rfl⟩:=jD.1 q;exact nP k o ho (h k (by simpa using hc)) e he hb
  exact h
end
end Go.Proofs.YtoiflofhcmjpoaaGreat
namespace Go.Proofs.YtoiflofhcmjpoaaGreat
open Go
section
variable {P : Program} {ops : Array Oper} {Q : Exit -> Act -> World -> Prop} {md : Region.Mode} {S : World -> Prop} {N : Nat -> Bool} {R : List Nat}
def tP (P:Program) (md:Region.Mode) (ops:Array Oper) (Q:Exit->Act->World->Prop) (S:World->Prop) (N:Nat->Bool):Nat->Array Bool->Act->World->Prop
 | 0,ax,a,w=>Region.ready md ops ax=[]/\Q .normal a w
 | fuel+1,ax,a,w =>
  (Region.ready md ops ax=[]->Q .normal a w) /\
  ∀ i∈Region.ready md ops ax,wpOp P ops Q i (fun a' w'=>(N i=true->S w')/\tP P md ops Q S N fuel (ax.setIfInBounds i true) a' w') a w
theorem oX:∀ (fuel:Nat) (ax:Array Bool) (a:Act) (w:World),tP P md ops Q S N fuel ax a w->wpAny P md ops Q fuel ax a w
 | 0,_,_,_,h=>h
 | fuel+1,_,_,_,h=>⟨h.1,fun i hi=>wpOp_mono (fun a' w' h'=>oX fuel _ a' w' h'.2) (h.2 i hi)⟩
def Down (md:Region.Mode) (ops:Array Oper) (ax:Array Bool):Prop:=∀ j oj,ops[j]?=some oj->ax.getD j false=true->∀ e∈oj.after,Region.binds md e=true->ax.getD e.on false=true
theorem mP {ax:Array Bool} {j:Nat} (hd:Down md ops ax) (hj:j∈Region.ready md ops ax):Down md ops (ax.setIfInBounds j true):=by
 intro k ok hk l6 e he hb;obtain⟨-,oj,T9,dH⟩:=mem_ready.1 hj;by_cases hkj:k=j
 ·subst hkj
  rw[T9] at hk;cases hk;exact getD_set_true (dH e he hb)
 rw[getD_set_ne false (Ne.symm hkj)] at l6;exact getD_set_true (hd k ok hk l6 e he hb)
theorem J1 {ax:Array Bool} {i j:Nat} (hd:Down md ops ax) (hj:j∈Region.ready md ops ax) (hi:ax.getD i false=false):i ∉ reach md ops ops.size (jF md ops j):=by
 intro h;obtain⟨-,oj,T9,dH⟩:=mem_ready.1 hj;have:=my hd ops.size (jF md ops j) (fun x hx=>by
  grind [jD]) i h
 grind
theorem ML {ax:Array Bool} {i:Nat} (hr:i∈Region.ready md ops ax):ax.getD i false=false:=by
 have h0:=(mem_ready.1 hr).1
 all_goals grind
theorem Am {i:Nat} {oi:Oper} {v:Value} (hi:ops[i]?=some oi) (Y8:∀ (j:Nat) (o:Oper) cs b,ops[j]?=some o->o.op≠.select cs b)
  (hQ:∀ c a w,Q (.panic c) (a.put oi.dst v) w->Q (.panic c) a w)
  (hN:∀ j,j≠i->i ∉ reach md ops ops.size (jF md ops j)->N j=true) :
  ∀ (fuel:Nat) (ax:Array Bool) (a:Act) (w:World),Down md ops ax ->
   (∀ j oj,ops[j]?=some oj->j≠i->ax.getD j true=false->(∀ e∈oj.after,Region.binds md e=true->e.on≠i)->oi.apart ops oj=true) ->
   i∈Region.ready md ops ax->YieldsIf P ops S oi v a->S w ->
   tP P md ops Q S N fuel (ax.setIfInBounds i true) (a.put oi.dst v) w->tP P md ops Q S N (fuel+1) ax a w:=by
 intro fuel
 induction fuel with
 | zero =>
  intro ax a w _ _ hr hy hS H;refine⟨fun h=>(by grind),fun j hj=>?_⟩;by_cases lA:j=i
  ·subst lA;exact hy.wpOp hi hS ⟨fun _=>hS,H⟩
  have:=ready_mono hj lA;rw[H.1] at this;cases this
 | succ fuel ih =>
  intro ax a w nP CX hr hy hS H;refine⟨fun h=>(by grind),fun j hj=>?_⟩;by_cases lA:j=i
  ·subst lA;exact hy.wpOp hi hS ⟨fun _=>hS,H⟩
  obtain⟨abU,oj,T9,dH⟩:=mem_ready.1 hj;have ak4:∀ e∈oj.after,Region.binds md e=true->e.on≠i:=fun e he hb heq=>by
   have h1:=dH e he hb;have h0:=(mem_ready.1 hr).1
   all_goals grind
  have hNj:=hN j lA (J1 nP hj (ML hr));have h2:=wpOp_putIf T9 (CX j oj T9 lA abU ak4) (fun cs b=>Y8 i oi cs b hi) (fun cs b=>Y8 j oj cs b T9) hQ hy (H.2 j (ready_mono hj lA));refine wpOp_mono (fun a' w' h3=>⟨fun _=>h3.2.1 hNj,ih (ax.setIfInBounds j true) a' w' (mP nP hj) (fun k ok hk Wf hun oe=>?_) (ready_mono hr (Ne.symm lA)) h3.1 (h3.2.1 hNj) ?_⟩) h2
  ·refine CX k ok hk Wf ?_ oe
   by_cases He:j=k
   ·subst He;exact abU
   rw[getD_set_ne true He] at hun;exact hun
  rw[Qc _ _ lA];exact h3.2.2
def x4 (md:Region.Mode) (ops:Array Oper) (R:List Nat) (j:Nat):Bool :=
 R.any fun i=>i != j&&!(reach md ops ops.size (jF md ops j)).contains i
theorem NV {i j:Nat} (hi:i∈R) (bh:j≠i) (oe:i ∉ reach md ops ops.size (jF md ops j)):x4 md ops R j=true:=by
 refine List.any_eq_true.2 ⟨i,hi,?_⟩
 grind
def pick (ops:Array Oper) (order:List Nat):List (Nat × Oper):=order.filterMap fun i=>(ops[i]?).map fun o=>(i,o)
end
end Go.Proofs.YtoiflofhcmjpoaaGreat
namespace Go.Proofs.YtoiflofhcmjpoaaGreat
open Go
inductive Way where
 | done:Way
 | then_:Nat->Way->Way
 | fork:Nat->Nat->Way->Way->Way
def Way.size:Way->Nat
 | done=>0
 | then_ _ r=>r.size+1
 | fork _ _ r s=>max r.size s.size+1
def Way.line:List Nat->Way->Way
 | [],r=>r
 | i :: l,r=>.then_ i (Way.line l r)
section
variable {P : Program} {ops : Array Oper} {Q : Exit -> Act -> World -> Prop} {md : Region.Mode} {S : World -> Prop} {R : List Nat}
def Way.inside (n:Nat):Way->Bool
 | done=>true
 | then_ i r=>decide (i<n)&&r.inside n
 | fork i j r s=>decide (i<n)&&decide (j<n)&&r.inside n&&s.inside n
def kd (md:Region.Mode) (ops:Array Oper) (R:List Nat):Way->Array Bool->Bool
 | .done,ax=>(Region.ready md ops ax).isEmpty
 | .then_ i r,ax=>(if R.contains i then (Region.ready md ops ax).contains i&&Region.free md ops ax i else Region.ready md ops ax==[i])&&kd md ops R r (ax.setIfInBounds i true)
 | .fork i j r s,ax=>!R.contains i&&!R.contains j&&Region.ready md ops ax==[i,j]&&kd md ops R r (ax.setIfInBounds i true)&&kd md ops R s (ax.setIfInBounds j true)
def fI (P:Program) (md:Region.Mode) (ops:Array Oper) (Q:Exit->Act->World->Prop) (S:World->Prop) (R:List Nat):Way->Act->World->Prop
 | .done,a,w=>Q .normal a w
 | .then_ i r,a,w =>
  if R.contains i then ∃ o,ops[i]?=some o/\∃ v,YieldsIf P ops S o v a/\S w/\(∀ c a w,Q (.panic c) (a.put o.dst v) w->Q (.panic c) a w)/\fI P md ops Q S R r (a.put o.dst v) w
  else wpOp P ops Q i (fun a' w'=>(x4 md ops R i=true->S w')/\fI P md ops Q S R r a' w') a w
 | .fork i j r s,a,w =>
  wpOp P ops Q i (fun a' w'=>(x4 md ops R i=true->S w')/\fI P md ops Q S R r a' w') a w /\
  wpOp P ops Q j (fun a' w'=>(x4 md ops R j=true->S w')/\fI P md ops Q S R s a' w') a w
theorem gd (hs:Region.noSelect ops=true):∀ (qL:Way) (ax:Array Bool) (a:Act) (w:World) (fuel:Nat),qL.size<=fuel->qL.inside ops.size=true->kd md ops R qL ax=true->Down md ops ax ->
  fI P md ops Q S R qL a w->tP P md ops Q S (x4 md ops R) fuel ax a w
 | .done,_,_,_,0,_,_,hc,_,h=>⟨by simpa[kd] using hc,h⟩
 | .done,_,_,_,n+1,_,_,hc,_,h=>⟨fun _=>h,by rw[show Region.ready md ops _=[] by simpa[kd] using hc];simp⟩
 | .then_ i rest,ax,a,w,0,hl,_,_,_,_=>by simp[Way.size] at hl
 | .fork i j r s,ax,a,w,0,hl,_,_,_,_=>by simp[Way.size] at hl
 | .then_ i rest,ax,a,w,fuel+1,hl,aL,hc,nP,h=>by
  simp only[Way.size,Qd] at hl;simp only[Way.inside,Qa,decide_eq_true_eq] at aL;unfold kd at hc;rw[Qa] at hc;unfold fI at h;by_cases hR:R.contains i=true
  ·rw[if_pos hR] at h
   rw[if_pos hR,Qa] at hc;obtain⟨o,ho,v,hy,hS,hQ,h⟩:=h;exact Am ho (Region.noSelect_spec hs) hQ (fun j bh oe=>NV (by simpa using hR) bh oe) fuel ax a w nP (Region.free_spec ho hc.1.2) (by simpa using hc.1.1) hy hS
    (gd hs rest _ _ _ fuel hl aL.2 hc.2 (mP nP (by simpa using hc.1.1)) h)
  rw[if_neg hR] at h hc;have hr:Region.ready md ops ax=[i]:=by simpa using hc.1
  refine⟨fun h0=>(by rw[hr] at h0;cases h0),fun j hj=>?_⟩;rw[hr] at hj;obtain rfl:j=i:=by simpa using hj
  exact wpOp_mono (fun a' w' h'=>⟨h'.1,gd hs rest _ a' w' fuel hl aL.2 hc.2 (mP nP (by rw[hr];simp)) h'.2⟩) h
 | .fork i j r s,ax,a,w,fuel+1,hl,aL,hc,nP,h=>by
  simp only[Way.size,Qd] at hl;simp only[Way.inside,Qa,decide_eq_true_eq] at aL;unfold kd at hc;simp only[Qa,Bool.not_eq_true',beq_iff_eq] at hc;obtain⟨⟨⟨⟨-,-⟩,hr⟩,cY⟩,bA⟩:=hc;unfold fI at h;refine⟨fun h0=>(by rw[hr] at h0;cases h0),fun k hk=>?_⟩;rw[hr] at hk;have X9:k=i\/k=j:=by simpa using hk
  rcases X9 with e | e
  ·subst e
   exact wpOp_mono (fun a' w' h'=>⟨h'.1,gd hs r _ a' w' fuel (by omega) aL.1.2 cY (mP nP (by rw[hr];simp)) h'.2⟩) h.1
  subst e;exact wpOp_mono (fun a' w' h'=>⟨h'.1,gd hs s _ a' w' fuel (by omega) aL.2 bA (mP nP (by rw[hr];simp)) h'.2⟩) h.2
theorem ar {id:Nat} {a:Act} {w:World} (S:World->Prop) (R:List Nat) (qL:Way) (hm:P.follows .mixedOrders=true)
  (hc:(Region.noSelect ops&&decide (qL.size<=ops.size)&&qL.inside ops.size&&kd .any ops R qL (Array.replicate ops.size false))=true)
  (h:fI P .any ops Q S R qL a w.drew):(Code.region id ops true).wp P Q a w:=by
 simp only[Qa,decide_eq_true_eq] at hc;exact wp_region_any hm (oX _ _ _ _ (gd hc.1.1.1 qL _ a _ _ hc.1.1.2 hc.1.2 hc.2 (fun j _ _ hj=>by simp[Array.getElem?_replicate] at hj;split at hj <;> simp_all) h))
theorem ai {i:Nat} {rest:Way} {a:Act} {w:World} {o:Oper} {v:Value} (ho:ops[i]?=some o) (hR:R.contains i=true) (hw:Region.wanted o (yielded ops a.tmps)=true)
  (hQ:∀ c a w,Q (.panic c) (a.put o.dst v) w->Q (.panic c) a w) (hS:S w) (hv:∀ w,S w->(execOp a.eval o).run P w=.ok (.value v) w) (h:fI P md ops Q S R rest (a.put o.dst v) w):fI P md ops Q S R (.then_ i rest) a w:=by
 unfold fI;rw[if_pos hR];exact⟨o,ho,v,Or.inl ⟨hw,hv⟩,hS,hQ,h⟩
theorem dA {i:Nat} {rest:Way} {a:Act} {w:World} {o:Oper} (ho:ops[i]?=some o) (hR:R.contains i=true) (hw:Region.wanted o (yielded ops a.tmps)=false)
  (hQ:∀ c a w,Q (.panic c) (a.put o.dst undef) w->Q (.panic c) a w) (hS:S w) (h:fI P md ops Q S R rest (a.put o.dst undef) w):fI P md ops Q S R (.then_ i rest) a w:=by
 unfold fI;rw[if_pos hR];exact⟨o,ho,undef,Or.inr ⟨hw,rfl⟩,hS,hQ,h⟩
theorem cV {i:Nat} {rest:Way} {a:Act} {w:World} {o:Oper} (ho:ops[i]?=some o) (hR:R.contains i=false) (hw:Region.wanted o (yielded ops a.tmps)=false)
  (hS:S w) (h:fI P md ops Q S R rest (a.put o.dst undef) w):fI P md ops Q S R (.then_ i rest) a w:=by
 unfold fI;rw[if_neg (by grind)];unfold wpOp
 grind
theorem au {i:Nat} {rest:Way} {a:Act} {w:World} {o:Oper} (ho:ops[i]?=some o) (hR:R.contains i=false) (hw:Region.wanted o (yielded ops a.tmps)=true)
  (h:∀ K:Act->World->Prop,Shut (∀ a w,(x4 md ops R i=true->S w)->fI P md ops Q S R rest a w->K a w)->Oper.wp P o a w K Q):fI P md ops Q S R (.then_ i rest) a w:=by
 unfold fI;rw[if_neg (by grind)];unfold wpOp;simp only[ho,hw,if_true];exact Or.inl (h _ (fun a w hS hr=>⟨hS,hr⟩))
theorem aC {a:Act} {w:World} (h:Q .normal a w):fI P md ops Q S R .done a w:=h
end
end Go.Proofs.YtoiflofhcmjpoaaGreat
namespace Go.Proofs.YtoiflofhcmjpoaaGreat
open Go.RowKit Go.Maps
theorem vk (v:Value) (l:List Int) (n:Int) (w:World) (_hn:aU n) (h:al w v l) :
  Calls Tryz.prog 55 #[v,.int .i64 n] w fun e w'=>e=.returned (.bool (Plain.gh l n))/\ag [] w w':=by
 obtain⟨ao,cap,rfl,dK,hm,aK⟩:=h;have fZ:=lh dK;have qZ:=lh aK;clear dK aK
 go_enter Tryz.func55,Tryz.ntmps55
 go_wp2
 go_loopw [9] (fun c wr=>∃ k:Nat,k<=l.length/\c=.int .i64 k/\ag [] w wr/\Hid ((Qe k).all (Plain.iz l n)=true)) (fun c _=>l.length - (intOf c).toNat)
 case atStart=>exact⟨0,Qh _,rfl,ag.refl _ _,rfl⟩
 case round =>
  obtain⟨k,hk,rfl,hc,dH⟩:=hrel;have HC:=lh hc;by_cases aL:k<l.length
  ·obtain⟨b,off,rfl,wj⟩:=qZ.out (by grind)
   have c0:=hc.c (wj k aL);have hz:=fZ.out (l.getD k 0) (by grind);have HF:=lh (fun h=>Plain.dL (p:=Plain.iz l n) aL h);have HS:=lh (Plain.eA (Plain.iz l n) k);cases k with
   | zero =>
    have HR:=lh (show Plain.iz l n 0=!(decide (l.getD 0 0<0) || decide (n<=l.getD 0 0)) by simp[Plain.iz]);rw[Qg] at c0;clear wj hc;generalize l.getD 0 0=z at *;by_cases h1:z<0
    ·go_wp2
     go_ret;exact⟨bm (by rw[HR.out] at HF;exact (HF.out (by simp[h1])).symm),HC.out⟩
    by_cases h2:n<=z
    ·go_wp2
     go_ret;exact⟨bm (by rw[HR.out] at HF;exact (HF.out (by simp[h2])).symm),HC.out⟩
    go_wp2
    go_roundw
    case rel=>exact⟨1,by omega,by go_num,HC.out,lh (by rw[HS.out,HR.out,dH.out];simp[h1,h2])⟩
    case measure=>simp[intOf];omega
   | succ m =>
    have c1:=hc.c (wj m (by omega));have HR:=lh (show Plain.iz l n (m+1)=!(decide (l.getD (m+1) 0<0) || decide (n<=l.getD (m+1) 0) || decide (l.getD (m+1) 0<=l.getD m 0)) by simp[Plain.iz]);have nT:(((m+1:Nat):Int) - 1)=(m:Int):=by omega
    have hy:=fZ.out (l.getD m 0) (by simp[List.getD,show m<l.length by omega]);clear wj hc;generalize l.getD (m+1) 0=z at *;generalize l.getD m 0=y at *;by_cases h1:z<0
    ·go_wp2
     go_ret;exact⟨bm (by rw[HR.out] at HF;exact (HF.out (by simp[h1])).symm),HC.out⟩
    by_cases h2:n<=z
    ·go_wp2
     go_ret;exact⟨bm (by rw[HR.out] at HF;exact (HF.out (by simp[h2])).symm),HC.out⟩
    by_cases h3:z<=y
    ·go_wp2
     go_ret;exact⟨bm (by rw[HR.out] at HF;exact (HF.out (by simp[h3])).symm),HC.out⟩
    go_wp2
    go_roundw
    case rel=>exact⟨m+2,by omega,by go_num,HC.out,lh (by rw[HS.out,HR.out,dH.out];simp[h1,h2,h3])⟩
    case measure=>simp[intOf];omega
  have e:k=l.length:=by omega
  subst e;go_wp2;go_ret;exact⟨bm dH.out.symm,HC.out⟩
theorem vm (v:Value) (g:Plain.Gr) (w:World) (h:dJ w v g) :
  Calls Tryz.prog 54 #[v] w fun e w'=>e=.returned (.int .i64 g.err)/\ag [] w w':=by
 obtain⟨eo,cap,rfl,hn,hm,dK,aK⟩:=h;have fZ:=lh dK;have qZ:=lh aK;have HN:=lh hn;have SU:-9223372036854775808<=g.n:=by have h:=hn;unfold aU at h;simp only[Lit.wf,Qa,decide_eq_true_eq] at h;exact h.1
 clear dK aK
 go_enter Tryz.func54,Tryz.ntmps54
 have b8:=lh ((ag.refl [] w).alloc (.cells #[.int .i64 g.n,.slice eo g.e.length cap] 24));by_cases h1:g.n<0
 ·have HE:=lh (show g.err=3 by grind [Plain.Gr.err])
  go_wp2;go_ret;exact⟨bO HE.out.symm,b8.out⟩
 by_cases h2:1024<g.n
 ·have HE:=lh (show g.err=2 by grind [Plain.Gr.err])
  go_wp2;go_ret;exact⟨bO HE.out.symm,b8.out⟩
 have nK:(1024:Int) - g.n<=1024:=by omega
 by_cases h3:1024 - g.n<(g.e.length:Int)
 ·have HE:=lh (show g.err=2 by grind [Plain.Gr.err])
  go_wp2;go_ret;exact⟨bO HE.out.symm,b8.out⟩
 have ze:=lh (show g.err=if (Qe g.e.length).all g.eI then 0 else 3 by unfold Plain.Gr.err;rw[if_neg h1,if_neg (by omega)]);have nt:(w.alloc (.cells #[.int .i64 g.n,.slice eo g.e.length cap] 24)).cell? ⟨w.heap.size,0,none⟩=some (.int .i64 g.n):=by rw[cell_of_row _ _ 0 _ _ _ (heap_alloc_new w _)];rfl
 have EJ:=lh nt;clear nt;go_wp2;generalize (w.alloc (.cells #[.int .i64 g.n,.slice eo g.e.length cap] 24))=w1 at *;generalize w.heap.size=gb at *
 go_loopw [23] (fun c wr=>∃ k:Nat,k<=g.e.length/\c=.int .i64 k/\ag [] w1 wr/\Hid ((Qe k).all g.eI=true)) (fun c _=>g.e.length - (intOf c).toNat)
 case atStart=>exact⟨0,Qh _,rfl,ag.refl _ _,rfl⟩
 case round =>
  obtain⟨k,hk,rfl,hc,dH⟩:=hrel;have HC:=lh hc;have cn:=fun o=>bP (hc.c EJ.out) o;by_cases aL:k<g.e.length
  ·obtain⟨b,off,rfl,gO,cY⟩:=qZ.out k aL
   have c0:=hc.c (b8.out.c gO);have c1:=hc.c (b8.out.c cY);obtain⟨z1,z2⟩:=fZ.out k aL;have HF:=lh (fun h=>Plain.dL (p:=g.eI) aL h);have HS:=lh (Plain.eA g.eI k);have HR:=lh (show g.eI k=!(decide ((g.ends k).1<0) || decide (g.n<=(g.ends k).1) || decide ((g.ends k).2<0) || decide (g.n<=(g.ends k).2)) from rfl);clear gO cY hc;generalize (g.ends k).1=x at *;generalize (g.ends k).2=y at *;by_cases p1:x<0
   ·have HE:=lh (ze.out.trans (if_neg (by rw[HF.out (by rw[HR.out];simp[p1])];decide)))
    go_wp2;go_ret;exact⟨bO HE.out.symm,b8.out.t (HC.out.alloc _)⟩
   skip
   by_cases p2:g.n<=x
   ·have HE:=lh (ze.out.trans (if_neg (by rw[HF.out (by rw[HR.out];simp[p2])];decide)))
    go_wp2;go_ret;exact⟨bO HE.out.symm,b8.out.t (HC.out.alloc _)⟩
   skip
   by_cases p3:y<0
   ·have HE:=lh (ze.out.trans (if_neg (by rw[HF.out (by rw[HR.out];simp[p3])];decide)))
    go_wp2;go_ret;exact⟨bO HE.out.symm,b8.out.t (HC.out.alloc _)⟩
   skip
   by_cases p4:g.n<=y
   ·have HE:=lh (ze.out.trans (if_neg (by rw[HF.out (by rw[HR.out];simp[p4])];decide)))
    go_wp2;go_ret;exact⟨bO HE.out.symm,b8.out.t (HC.out.alloc _)⟩
   skip
   have HK:=lh (show (Qe (k+1)).all g.eI=true by rw[HS.out,HR.out,dH.out];simp[p1,p2,p3,p4]);go_wp2
   go_roundw
   case rel=>exact⟨k+1,by omega,by go_num,HC.out.alloc _,HK⟩
   case measure=>simp[intOf];omega
  have e:k=g.e.length:=by omega
  subst e;have HE:=lh (ze.out.trans (if_pos dH.out));go_wp2;go_ret;exact⟨bO HE.out.symm,b8.out.t HC.out⟩
end Go.Proofs.YtoiflofhcmjpoaaGreat
namespace Go.Proofs
open Go.Shelf
def Tryz.Bz:Go.Shelf.Ren:=⟨fun | 189=>59 | 125=>111 | 257=>110 | 128=>164 | 129=>165 | 294=>156 | 295=>157 | 296=>158 | 297=>159 | 298=>160 | 299=>161 | 216=>154 | 300=>162 | 301=>163 | 328=>196 | 329=>197 | 330=>198 | 331=>199 | 332=>200 | 215=>152 | 343=>207 | n=>n,fun | 28=>25 | 3=>3 | 46=>148 | 0=>0 | 51=>189 | 53=>191 | 4=>4 | 183=>183 | 182=>182 | 131=>114 | 5=>5 | 9=>9 | 218=>208 | 222=>212 | 228=>218 | 229=>219 | n=>n,fun | n=>n⟩
theorem Tryz.H9:Go.Proofs.Lays.n189 Tryz.prog Tryz.Bz:={
 mixed:=by kernel_rfl
 f125:=Tryz.func111.trans (congrArg some (by kernel_rfl))
 f128:=Tryz.func164.trans (congrArg some (by kernel_rfl))
 f129:=Tryz.func165.trans (congrArg some (by kernel_rfl))
 f189:=Tryz.func59.trans (congrArg some (by kernel_rfl))
 f215:=Tryz.func152.trans (congrArg some (by kernel_rfl))
 f216:=Tryz.func154.trans (congrArg some (by kernel_rfl))
 f257:=Tryz.func110.trans (congrArg some (by kernel_rfl))
 f294:=Tryz.func156.trans (congrArg some (by kernel_rfl))
 f295:=Tryz.func157.trans (congrArg some (by kernel_rfl))
 f296:=Tryz.func158.trans (congrArg some (by kernel_rfl))
 f297:=Tryz.func159.trans (congrArg some (by kernel_rfl))
 f298:=Tryz.func160.trans (congrArg some (by kernel_rfl))
 f299:=Tryz.func161.trans (congrArg some (by kernel_rfl))
 f300:=Tryz.func162.trans (congrArg some (by kernel_rfl))
 f301:=Tryz.func163.trans (congrArg some (by kernel_rfl))
 f328:=Tryz.func196.trans (congrArg some (by kernel_rfl))
 f329:=Tryz.func197.trans (congrArg some (by kernel_rfl))
 f330:=Tryz.func198.trans (congrArg some (by kernel_rfl))
 f331:=Tryz.func199.trans (congrArg some (by kernel_rfl))
 f332:=Tryz.func200.trans (congrArg some (by kernel_rfl))
 f343:=Tryz.func207.trans (congrArg some (by kernel_rfl))
 t0:=Tryz.underlying0
 a0:=Tryz.isAgg0
 z0:=Tryz.sizeOf0
 v0:=Tryz.zeroValue0
 t3:=Tryz.underlying3
 a3:=Tryz.isAgg3
 z3:=Tryz.sizeOf3
 v3:=Tryz.zeroValue3
 t4:=Tryz.underlying4
 a4:=Tryz.isAgg4
 z4:=Tryz.sizeOf4
 v4:=Tryz.zeroValue4
 t5:=Tryz.underlying5
 a5:=Tryz.isAgg5
 z5:=Tryz.sizeOf5
 v5:=Tryz.zeroValue5
 t9:=Tryz.underlying9
 a9:=Tryz.isAgg9
 z9:=Tryz.sizeOf9
 v9:=Tryz.zeroValue9
 t28:=Tryz.underlying25
 a28:=Tryz.isAgg25
 z28:=Tryz.sizeOf25
 v28:=Tryz.zeroValue25
 t46:=Tryz.underlying148
 a46:=Tryz.isAgg148
 z46:=Tryz.sizeOf148
 v46:=Tryz.zeroValue148
 t51:=Tryz.underlying189
 a51:=Tryz.isAgg189
 z51:=Tryz.sizeOf189
 v51:=Tryz.zeroValue189
 t53:=Tryz.underlying191
 a53:=Tryz.isAgg191
 z53:=Tryz.sizeOf191
 v53:=Tryz.zeroValue191
 t131:=Tryz.underlying114
 a131:=Tryz.isAgg114
 z131:=Tryz.sizeOf114
 v131:=Tryz.zeroValue114
 t182:=Tryz.underlying182
 a182:=Tryz.isAgg182
 z182:=Tryz.sizeOf182
 v182:=Tryz.zeroValue182
 t183:=Tryz.underlying183
 a183:=Tryz.isAgg183
 z183:=Tryz.sizeOf183
 v183:=Tryz.zeroValue183
 t218:=Tryz.underlying208
 a218:=Tryz.isAgg208
 z218:=Tryz.sizeOf208
 v218:=Tryz.zeroValue208
 t222:=Tryz.underlying212
 a222:=Tryz.isAgg212
 z222:=Tryz.sizeOf212
 v222:=Tryz.zeroValue212
 t228:=Tryz.underlying218
 a228:=Tryz.isAgg218
 z228:=Tryz.sizeOf218
 v228:=Tryz.zeroValue218
 t229:=Tryz.underlying219
 a229:=Tryz.isAgg219
 z229:=Tryz.sizeOf219
 v229:=Tryz.zeroValue219 }
open Go.Sort Go.RowKit in
theorem Tryz.slices_Sort_int (iN off cap:Nat) (zs:List Int) (w:World) (hH:Holds (Qb .i64) w iN off zs.toArray) (hblk:iN<w.heap.size) (dj:zs.length<4611686018427387904) :
  Calls Tryz.prog 59 #[.slice (some ⟨iN,off,none⟩) zs.length cap] w fun e w' =>
   e=.returned (.tuple #[])/\∃ n os,w'=grow (putRow (Qb .i64) (Sort.ahead w n) iN off (zs.mergeSort fun x y=>decide (x<=y)).toArray) os:=Any.slices_Sort_int Tryz.H9 iN off cap zs w hH hblk dj
def Tryz.BH:Go.Shelf.Ren:=⟨fun | 108=>136 | n=>n,fun | 28=>25 | 3=>3 | 0=>0 | 4=>4 | n=>n,fun | n=>n⟩
theorem Tryz.GZ:Go.Proofs.Lays.n108 Tryz.prog Tryz.BH:={
 mixed:=by kernel_rfl
 f108:=Tryz.func136.trans (congrArg some (by kernel_rfl))
 t0:=Tryz.underlying0
 a0:=Tryz.isAgg0
 z0:=Tryz.sizeOf0
 v0:=Tryz.zeroValue0
 t3:=Tryz.underlying3
 a3:=Tryz.isAgg3
 z3:=Tryz.sizeOf3
 v3:=Tryz.zeroValue3
 t4:=Tryz.underlying4
 a4:=Tryz.isAgg4
 z4:=Tryz.sizeOf4
 v4:=Tryz.zeroValue4
 t28:=Tryz.underlying25
 a28:=Tryz.isAgg25
 z28:=Tryz.sizeOf25
 v28:=Tryz.zeroValue25 }
open Go.Lib in
theorem Tryz.slices_Index_int (b off n c:Nat) (zs:List Int) (x:Int) (w:World) (hz:n<=zs.length) (Aa:n<=9223372036854775807) (hc:∀ j,j<zs.length->w.cell? ⟨b,off+j,none⟩=some (.int .i64 (zs.getD j 0))) :
  Calls Tryz.prog 136 #[.slice (some ⟨b,off,none⟩) n c,.int .i64 x] w fun e w'=>e=.returned (.int .i64 (Lib.idxOf (zs.take n) x))/\w'=w:=Any.slices_Index_int Tryz.GZ b off n c zs x w hz Aa hc
open Go.Lib in
theorem Tryz.slices_Index_int_empty (a:Option Addr) (c:Nat) (x:Int) (w:World) :
  Calls Tryz.prog 136 #[.slice a 0 c,.int .i64 x] w fun e w'=>e=.returned (.int .i64 (Lib.idxOf [] x))/\w'=w:=Any.slices_Index_int_empty Tryz.GZ a c x w
def Tryz.BR:Go.Shelf.Ren:=⟨fun | 107=>179 | 108=>136 | n=>n,fun | 28=>25 | 3=>3 | 4=>4 | 0=>0 | n=>n,fun | n=>n⟩
theorem Tryz.Hu:Go.Proofs.Lays.n107 Tryz.prog Tryz.BR:={
 mixed:=by kernel_rfl
 f107:=Tryz.func179.trans (congrArg some (by kernel_rfl))
 f108:=Tryz.func136.trans (congrArg some (by kernel_rfl))
 t0:=Tryz.underlying0
 a0:=Tryz.isAgg0
 z0:=Tryz.sizeOf0
 v0:=Tryz.zeroValue0
 t3:=Tryz.underlying3
 a3:=Tryz.isAgg3
 z3:=Tryz.sizeOf3
 v3:=Tryz.zeroValue3
 t4:=Tryz.underlying4
 a4:=Tryz.isAgg4
 z4:=Tryz.sizeOf4
 v4:=Tryz.zeroValue4
 t28:=Tryz.underlying25
 a28:=Tryz.isAgg25
 z28:=Tryz.sizeOf25
 v28:=Tryz.zeroValue25 }
open Go.Lib in
theorem Tryz.slices_Contains_int (b off n c:Nat) (zs:List Int) (x:Int) (w:World) (hz:n<=zs.length) (Aa:n<=9223372036854775807) (hc:∀ j,j<zs.length->w.cell? ⟨b,off+j,none⟩=some (.int .i64 (zs.getD j 0))) :
  Calls Tryz.prog 179 #[.slice (some ⟨b,off,none⟩) n c,.int .i64 x] w fun e w'=>e=.returned (.bool ((zs.take n).contains x))/\w'=w:=Any.slices_Contains_int Tryz.Hu b off n c zs x w hz Aa hc
open Go.Lib in
theorem Tryz.slices_Contains_int_empty (a:Option Addr) (c:Nat) (x:Int) (w:World) :
  Calls Tryz.prog 179 #[.slice a 0 c,.int .i64 x] w fun e w'=>e=.returned (.bool false)/\w'=w:=Any.slices_Contains_int_empty Tryz.Hu a c x w
def Tryz.Dh:Go.Shelf.Ren:=⟨fun | 112=>202 | n=>n,fun | 28=>25 | 3=>3 | 4=>4 | 0=>0 | n=>n,fun | n=>n⟩
theorem Tryz.H':Go.Proofs.Lays.n112 Tryz.prog Tryz.Dh:={
 mixed:=by kernel_rfl
 f112:=Tryz.func202.trans (congrArg some (by kernel_rfl))
 t0:=Tryz.underlying0
 a0:=Tryz.isAgg0
 z0:=Tryz.sizeOf0
 v0:=Tryz.zeroValue0
 t3:=Tryz.underlying3
 a3:=Tryz.isAgg3
 z3:=Tryz.sizeOf3
 v3:=Tryz.zeroValue3
 t4:=Tryz.underlying4
 a4:=Tryz.isAgg4
 z4:=Tryz.sizeOf4
 v4:=Tryz.zeroValue4
 t28:=Tryz.underlying25
 a28:=Tryz.isAgg25
 z28:=Tryz.sizeOf25
 v28:=Tryz.zeroValue25 }
open Go.RowKit Go.Lib Go.Sort in
theorem Tryz.slices_Reverse_int (iN off cap:Nat) (zs:List Int) (w:World) (hH:Holds (Qb .i64) w iN off zs.toArray) (dj:zs.length<=9223372036854775807) :
  Calls Tryz.prog 202 #[.slice (some ⟨iN,off,none⟩) zs.length cap] w fun e w'=>e=.returned (.tuple #[])/\∃ n,w'=putRow (Qb .i64) (Sort.ahead w n) iN off zs.reverse.toArray:=Any.slices_Reverse_int Tryz.H' iN off cap zs w hH dj
open Go.RowKit Go.Lib Go.Sort in
theorem Tryz.slices_Reverse_int_empty (a:Option Addr) (cap:Nat) (w:World) :
  Calls Tryz.prog 202 #[.slice a 0 cap] w fun e w'=>e=.returned (.tuple #[])/\w'=w:=Any.slices_Reverse_int_empty Tryz.H' a cap w
def Tryz.Ct:Go.Shelf.Ren:=⟨fun | 111=>166 | n=>n,fun | 28=>25 | 3=>3 | 4=>4 | 0=>0 | n=>n,fun | n=>n⟩
theorem Tryz.zL:Go.Proofs.Lays.n111 Tryz.prog Tryz.Ct:={
 mixed:=by kernel_rfl
 f111:=Tryz.func166.trans (congrArg some (by kernel_rfl))
 t0:=Tryz.underlying0
 a0:=Tryz.isAgg0
 z0:=Tryz.sizeOf0
 v0:=Tryz.zeroValue0
 t3:=Tryz.underlying3
 a3:=Tryz.isAgg3
 z3:=Tryz.sizeOf3
 v3:=Tryz.zeroValue3
 t4:=Tryz.underlying4
 a4:=Tryz.isAgg4
 z4:=Tryz.sizeOf4
 v4:=Tryz.zeroValue4
 t28:=Tryz.underlying25
 a28:=Tryz.isAgg25
 z28:=Tryz.sizeOf25
 v28:=Tryz.zeroValue25 }
open Go.RowKit Go.Lib in
theorem Tryz.slices_Equal_int (b1 o1 n c b2 o2 m d:Nat) (xs ys:List Int) (w:World) (hx:n<=xs.length) (hy:m<=ys.length) (Aa:n<=9223372036854775807) (NW:m<=9223372036854775807) (cY:∀ j,j<xs.length->w.cell? ⟨b1,o1+j,none⟩=some (.int .i64 (xs.getD j 0))) (bA:∀ j,j<ys.length->w.cell? ⟨b2,o2+j,none⟩=some (.int .i64 (ys.getD j 0))) :
  Calls Tryz.prog 166 #[.slice (some ⟨b1,o1,none⟩) n c,.slice (some ⟨b2,o2,none⟩) m d] w fun e w'=>e=.returned (.bool (xs.take n==ys.take m))/\∃ q,w'=w.drewN q:=Any.slices_Equal_int Tryz.zL b1 o1 n c b2 o2 m d xs ys w hx hy Aa NW cY bA
open Go.RowKit Go.Lib in
theorem Tryz.slices_Equal_int_empty (a1 a2:Option Addr) (c m d:Nat) (w:World) (NW:m<=9223372036854775807) :
  Calls Tryz.prog 166 #[.slice a1 0 c,.slice a2 m d] w fun e w'=>e=.returned (.bool (decide (m=0)))/\w'=w:=Any.slices_Equal_int_empty Tryz.zL a1 a2 c m d w NW
def Tryz.xi:Go.Shelf.Ren:=⟨fun | 15=>53 | n=>n,fun | 22=>25 | 3=>3 | 4=>4 | n=>n,fun | n=>n⟩
theorem Tryz.rM:Go.Proofs.Lays2.n15 Tryz.prog Tryz.xi:={
 mixed:=by kernel_rfl
 f15:=Tryz.func53.trans (congrArg some (by kernel_rfl))
 t3:=Tryz.underlying3
 a3:=Tryz.isAgg3
 z3:=Tryz.sizeOf3
 v3:=Tryz.zeroValue3
 t4:=Tryz.underlying4
 a4:=Tryz.isAgg4
 z4:=Tryz.sizeOf4
 v4:=Tryz.zeroValue4
 t22:=Tryz.underlying25
 a22:=Tryz.isAgg25
 z22:=Tryz.sizeOf25
 v22:=Tryz.zeroValue25
 i3:=by kernel_rfl }
open Go.RowKit Go.Lib in
theorem Tryz.slices_Clone_int (b off n c:Nat) (zs:List Int) (w:World) (hz:n<=zs.length) (Aa:n*8<=140737488355328) (hc:∀ j,j<zs.length->w.cell? ⟨b,off+j,none⟩=some (.int .i64 (zs.getD j 0))) :
  Calls Tryz.prog 53 #[.slice (some ⟨b,off,none⟩) n c] w fun e w'=>∃ v',e=.returned v'/\w'.ownsRow w.heap.size 3 1 v' n ((zs.take n).map (Qb .i64))/\v'≠.slice none 0 0/\Below w.heap.size w w':=Any.slices_Clone_int Tryz.rM b off n c zs w hz Aa hc
open Go.RowKit Go.Lib in
theorem Tryz.slices_Clone_int_nil (n c:Nat) (w:World) :
  Calls Tryz.prog 53 #[.slice none n c] w fun e w'=>e=.returned (.slice none 0 0)/\w'=w:=Any.slices_Clone_int_nil Tryz.rM n c w
open Go.RowKit Go.Lib in
theorem Tryz.slices_Clone_int_zero (a:Addr) (c:Nat) (w:World) :
  Calls Tryz.prog 53 #[.slice (some a) 0 c] w fun e w'=>∃ v',e=.returned v'/\w'.ownsRow w.heap.size 3 1 v' 0 []/\v'≠.slice none 0 0/\Below w.heap.size w w':=Any.slices_Clone_int_zero Tryz.rM a c w
def Tryz.xe:Go.Shelf.Ren:=⟨fun | 20=>60 | n=>n,fun | 22=>25 | 3=>3 | 4=>4 | 0=>0 | n=>n,fun | n=>n⟩
theorem Tryz.x6:Go.Proofs.Lays2.n20 Tryz.prog Tryz.xe:={
 mixed:=by kernel_rfl
 f20:=Tryz.func60.trans (congrArg some (by kernel_rfl))
 t0:=Tryz.underlying0
 a0:=Tryz.isAgg0
 z0:=Tryz.sizeOf0
 v0:=Tryz.zeroValue0
 t3:=Tryz.underlying3
 a3:=Tryz.isAgg3
 z3:=Tryz.sizeOf3
 v3:=Tryz.zeroValue3
 t4:=Tryz.underlying4
 a4:=Tryz.isAgg4
 z4:=Tryz.sizeOf4
 v4:=Tryz.zeroValue4
 t22:=Tryz.underlying25
 a22:=Tryz.isAgg25
 z22:=Tryz.sizeOf25
 v22:=Tryz.zeroValue25
 i3:=by kernel_rfl }
open Go.RowKit Go.Lib Go.Sort in
theorem Tryz.slices_Compact_int (iN off cap:Nat) (zs:List Int) (w:World) (hH:Holds (Qb .i64) w iN off zs.toArray) (dj:zs.length<=9223372036854775807) (iD:zs.length<=cap) :
  Calls Tryz.prog 60 #[.slice (some ⟨iN,off,none⟩) zs.length cap] w fun e w'=>e=.returned (.slice (some ⟨iN,off,none⟩) (Lib.compact zs).length cap)/\∃ q,w'=putRow (Qb .i64) (Sort.ahead w q) iN off (Lib.compact zs++Qf (zs.length - (Lib.compact zs).length) 0).toArray:=Any.slices_Compact_int Tryz.x6 iN off cap zs w hH dj iD
open Go.RowKit Go.Lib Go.Sort in
theorem Tryz.slices_Compact_int_empty (a:Option Addr) (cap:Nat) (w:World) :
  Calls Tryz.prog 60 #[.slice a 0 cap] w fun e w'=>e=.returned (.slice a 0 cap)/\w'=w:=Any.slices_Compact_int_empty Tryz.x6 a cap w
def Tryz.xn:Go.Shelf.Ren:=⟨fun | 25=>108 | 31=>154 | 32=>155 | 37=>152 | n=>n,fun | 22=>25 | 3=>3 | 4=>4 | 40=>148 | 0=>0 | n=>n,fun | n=>n⟩
theorem Tryz.yK:Go.Proofs.Lays2.n25 Tryz.prog Tryz.xn:={
 mixed:=by kernel_rfl
 f25:=Tryz.func108.trans (congrArg some (by kernel_rfl))
 f31:=Tryz.func154.trans (congrArg some (by kernel_rfl))
 f32:=Tryz.func155.trans (congrArg some (by kernel_rfl))
 f37:=Tryz.func152.trans (congrArg some (by kernel_rfl))
 t0:=Tryz.underlying0
 a0:=Tryz.isAgg0
 z0:=Tryz.sizeOf0
 v0:=Tryz.zeroValue0
 t3:=Tryz.underlying3
 a3:=Tryz.isAgg3
 z3:=Tryz.sizeOf3
 v3:=Tryz.zeroValue3
 t4:=Tryz.underlying4
 a4:=Tryz.isAgg4
 z4:=Tryz.sizeOf4
 v4:=Tryz.zeroValue4
 t22:=Tryz.underlying25
 a22:=Tryz.isAgg25
 z22:=Tryz.sizeOf25
 v22:=Tryz.zeroValue25
 t40:=Tryz.underlying148
 a40:=Tryz.isAgg148
 z40:=Tryz.sizeOf148
 v40:=Tryz.zeroValue148 }
open Go.RowKit Go.Lib in
theorem Tryz.slices_BinarySearch_int (b off n c:Nat) (zs:List Int) (x:Int) (w:World) (hz:n<=zs.length) (Aa:n<4611686018427387904) (hc:∀ j,j<zs.length->w.cell? ⟨b,off+j,none⟩=some (.int .i64 (zs.getD j 0))) (hs:(zs.take n).Pairwise (·<=·)) :
  Calls Tryz.prog 108 #[.slice (some ⟨b,off,none⟩) n c,.int .i64 x] w fun e w'=>e=.returned (.tuple #[.int .i64 ((zs.take n).countP (·<x):Nat),.bool ((zs.take n).contains x)])/\∃ q,w'=w.drewN q:=Any.slices_BinarySearch_int Tryz.yK b off n c zs x w hz Aa hc hs
def Tryz.wN:Go.Shelf.Ren:=⟨fun | 23=>137 | n=>n,fun | 22=>25 | 3=>3 | 4=>4 | 0=>0 | n=>n,fun | n=>n⟩
theorem Tryz.JH:Go.Proofs.Lays2.n23 Tryz.prog Tryz.wN:={
 mixed:=by kernel_rfl
 f23:=Tryz.func137.trans (congrArg some (by kernel_rfl))
 t0:=Tryz.underlying0
 a0:=Tryz.isAgg0
 z0:=Tryz.sizeOf0
 v0:=Tryz.zeroValue0
 t3:=Tryz.underlying3
 a3:=Tryz.isAgg3
 z3:=Tryz.sizeOf3
 v3:=Tryz.zeroValue3
 t4:=Tryz.underlying4
 a4:=Tryz.isAgg4
 z4:=Tryz.sizeOf4
 v4:=Tryz.zeroValue4
 t22:=Tryz.underlying25
 a22:=Tryz.isAgg25
 z22:=Tryz.sizeOf25
 v22:=Tryz.zeroValue25
 i3:=by kernel_rfl }
open Go.RowKit Go.Lib Go.Sort in
theorem Tryz.slices_Delete_int (iN off cap i j:Nat) (zs:List Int) (w:World) (hH:Holds (Qb .i64) w iN off zs.toArray) (iD:zs.length<=cap) (hm:cap<=9223372036854775807) (DC:i<=j) (hj:j<=zs.length) :
  Calls Tryz.prog 137 #[.slice (some ⟨iN,off,none⟩) zs.length cap,.int .i64 i,.int .i64 j] w fun e w'=>e=.returned (.slice (some ⟨iN,off,none⟩) (zs.length - (j - i)) cap)/\∃ q,w'=putRow (Qb .i64) (Sort.ahead w q) iN off (zs.take i++zs.drop j++Qf (j - i) 0).toArray:=Any.slices_Delete_int Tryz.JH iN off cap i j zs w hH iD hm DC hj
open Go.RowKit Go.Sort in
theorem Tryz.slices_Sort_int_none (p:Option Addr) (cap:Nat) (w:World) :
  Calls Tryz.prog 59 #[.slice p 0 cap] w fun e w'=>e=.returned (.tuple #[])/\w'=w:=Any.slices_Sort_int_none Tryz.H9 p cap w
open Go.RowKit Go.Lib in
theorem Tryz.slices_BinarySearch_int_empty (a:Option Addr) (c:Nat) (x:Int) (w:World) :
  Calls Tryz.prog 108 #[.slice a 0 c,.int .i64 x] w fun e w'=>e=.returned (.tuple #[.int .i64 0,.bool false])/\w'=w:=Any.slices_BinarySearch_int_empty Tryz.yK a c x w
open Go.RowKit Go.Lib in
theorem Tryz.slices_Equal_int_lens (a1 a2:Option Addr) (n c m d:Nat) (w:World) (WO:n≠m) :
  Calls Tryz.prog 166 #[.slice a1 n c,.slice a2 m d] w fun e w'=>e=.returned (.bool false)/\w'=w:=Any.slices_Equal_int_lens Tryz.zL a1 a2 n c m d w WO
end Go.Proofs
