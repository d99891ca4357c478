/- A region that draws its order, whose operations read, or make what then stays: walked one operation at a time, each from whatever the others have left. No program here. -/
import Derived.Deep.RegionHeld3
import Derived.Test.YtoiflofhcmjpoaaGreatF9Perm
import Derived.Shelf.Small.Bits
import Derived.Shelf.Small.Wraps
import Derived.Shelf.Strconv.Itoa0
import Derived.Shelf.Sort.Plain
import Derived.Shelf.Slices.Turned
import Derived.Shelf.Slices.Reverse
import Derived.Shelf.Slices.Equal
import Derived.Ground.Names2Prog
import Derived.Shelf.Slices.Clone
import Derived.Shelf.Slices.CompactI
import Derived.Shelf.Slices.SearchI
import Derived.Shelf.Slices.Delete
import Derived.Shelf.Slices.Cells
import Derived.Shelf.Slices.In.SortNone
import Derived.Shelf.Slices.Empties
import Derived.Shelf.Slices.Empties2
import Derived.Ground.SlsfProg
import Derived.Shelf.SlSortCmp.Insertion
import Derived.Shelf.SlSortCmp.SiftDown1
import Derived.Shelf.SlSortCmp.HeapSort1
import Derived.Shelf.SlSortCmp.Insertion1
import Derived.Shelf.SlSortCmp.Median1
import Derived.Shelf.SlSortCmp.Pivot1
import Derived.Shelf.SlSortCmp.ReverseRange1
import Derived.Shelf.SlSortCmp.PartialInsertion1
import Derived.Shelf.SlSortCmp.PartitionEqual1
import Derived.Shelf.SlSortCmp.Partition1
import Derived.Shelf.SlSortCmp.Pdq1
import Derived.Shelf.SlSortCmp.Whole1
import Derived.Shelf.SlSortCmp.NoneTotal
import Derived.Test.YtoiflofhcmjpoaaGreatProg
open Bool renaming and_eq_true→Qa
open Go.Value renaming int→Qb
open Array renaming setIfInBounds_comm→Qc
open Nat renaming add_le_add_iff_right→Qd,add_zero→Qg,zero_le→Qh
open List renaming range→Qe,replicate→Qf
open Go.Act renaming put→Qi
namespace Go.Proofs.YtoiflofhcmjpoaaGreat
open Plain
open Go
section
variable {P : Program} {ops : Array Oper} {Q : Exit -> Act -> World -> Prop} {md : Region.Mode}
def kg (aO:Nat->Value):Nat->List Oper->Act->Act
 | _,[],a=>a
 | i,o :: r,a=>kg aO (i+1) r (a.put o.dst (aO i))
theorem put_comm (a:Act) {d e:Option Nat} (u v:Value) (h:∀ x,d=some x->e≠some x):(a.put d u).put e v=(a.put e v).put d u:=by
 cases d with
 | none=>rfl
 | some x =>
  cases e with
  | none=>rfl
  | some y =>
   have:x≠y:=λq=>h x rfl (by rw[q]);simp only[Qi,Qc _ _ this]
theorem WX (a:Act) (d:Option Nat) (u v:Value):(a.put d u).put d v=a.put d v:=by
 cases d with
 | none=>rfl
 | some x=>simp only[Qi,Array.setIfInBounds_setIfInBounds]
theorem B5 (aO:Nat->Value) (d:Option Nat) (v:Value):∀ (l:List Oper) (i:Nat) (a:Act),(∀ o∈l,∀ x,d=some x->o.dst≠some x)->kg aO i l (a.put d v)=(kg aO i l a).put d v
 | [],_,_,_=>rfl
 | o :: r,i,a,h=>by
  simp only[kg];rw[put_comm a v (aO i) (h o (by simp)),B5 aO d v r (i+1) _ (λo ho=>h o (by simp[ho]))]
def qZ (aO:Nat->Value) (i:Nat) (v:Value):Nat->Value:=λj=>if j=i then v else aO j
theorem wS (aO:Nat->Value) (k:Nat) (v:Value):∀ (l:List Oper) (i:Nat) (a:Act),k<i->kg (qZ aO k v) i l a=kg aO i l a
 | [],_,_,_=>rfl
 | o :: r,i,a,h=>by
  simp only[kg];rw[wS aO k v r (i+1) _ (by omega),show qZ aO k v i=aO i from if_neg (by omega)]
def apart:List Oper->Bool
 | []=>true
 | o :: r=>(match o.dst with | none=>true | some x=>r.all λp=>p.dst != some x)&&apart r
theorem apart_spec {o:Oper} {r:List Oper} (h:apart (o :: r)=true):(∀ p∈r,∀ x,o.dst=some x->p.dst≠some x)/\apart r=true:=by
 grind [apart]
theorem BY (aO:Nat->Value) (v:Value):∀ (l:List Oper) (i k:Nat) (o:Oper) (a:Act),apart l=true->l[k]?=some o->kg (qZ aO (i+k) v) i l a=(kg aO i l a).put o.dst v
 | [],_,_,_,_,_,hk=>by simp at hk
 | p :: r,i,0,o,a,ha,hk=>by
  simp only[List.getElem?_cons_zero,Option.some.injEq] at hk;subst hk;have:=apart_spec ha;simp only[kg,Qg];rw[wS aO i v r (i+1) _ (by omega),show qZ aO i v i=v from if_pos rfl,<-WX a p.dst (aO i) v,B5 aO p.dst v r (i+1) _ this.1]
 | p :: r,i,k+1,o,a,ha,hk=>by
  simp only[List.getElem?_cons_succ] at hk;simp only[kg];rw[show qZ aO (i+(k+1)) v i=aO i from if_neg (by omega),show i+(k+1)=(i+1)+k by omega];exact BY aO v r (i+1) k o _ (apart_spec ha).2 hk
def held (a:Act) (o:Oper):Value:=match o.dst with | none=>undef | some x=>a.tmps.getD x undef
theorem WQ (a:Act) (o:Oper):a.put o.dst (held a o)=a:=by
 unfold held;cases hd:o.dst with
 | none=>rfl
 | some x =>
  simp only[Qi];have:a.tmps.setIfInBounds x (a.tmps.getD x undef)=a.tmps:=by
   apply Array.ext
   ·simp
   intro i h1 h2;rw[Array.getElem_setIfInBounds];split
   ·rename_i e;subst e;simp[Array.getD,h2]
   rfl
  rw[this]
theorem BH (aO:Nat->Value) (a:Act):∀ (l:List Oper) (i:Nat),(∀ k o,l[k]?=some o->aO (i+k)=held a o)->kg aO i l a=a
 | [],_,_=>rfl
 | o :: r,i,h=>by
  simp only[kg];rw[show aO i=held a o by simpa using h 0 o rfl,WQ];exact BH aO a r (i+1) (λk p hk=>by rw[<-h (k+1) p (by simpa using hk)];congr 1;omega)
def gT (L:List (Value->World->Prop)) (aO:Nat->Value) (w:World):List Nat->Prop
 | []=>True
 | d :: r=>(L.getD d (λ_ _=>True)) (aO d) w/\gT L aO w r
structure Info where
 deps:List Nat
 con:List Nat
 lin:Bool
def aC:Value->List Nat
 | .agg vs=>vs.toList.flatMap λv=>v.ownBlock.toList
 | v=>v.ownBlock.toList
theorem vU {L L':List (Value->World->Prop)} {aO:Nat->Value} {w:World}:∀ {d:List Nat},(∀ x∈d,L.getD x (λ_ _=>True)=L'.getD x (λ_ _=>True))->gT L aO w d=gT L' aO w d
 | [],_=>rfl
 | x :: r,h=>by
  simp only[gT];rw[h x (by simp),vU (λy hy=>h y (by simp[hy]))]
theorem Ae {L:List (Value->World->Prop)} {aO:Nat->Value} {w:World}:∀ {d:List Nat},(∀ x∈d,(L.getD x (λ_ _=>True)) (aO x) w)->gT L aO w d
 | [],_=>trivial
 | x :: r,h=>⟨h x (by simp),Ae (λy hy=>h y (by simp[hy]))⟩
variable {G : World -> Prop} {fr : (Nat -> Value) -> Act} {z : Nat} {fin : List Nat}
def kW (md:Region.Mode) (ops:Array Oper) (j:Nat):List Nat:=match ops[j]? with | none=>[] | some o=>(o.after.toList.filter (Region.binds md ·)).map (·.on)
def reach (md:Region.Mode) (ops:Array Oper):Nat->List Nat->List Nat
 | 0,l=>l
 | k+1,l=>reach md ops k (if l.contains k then l++kW md ops k else l)
theorem kT {j x:Nat}:x∈kW md ops j↔∃ o,ops[j]?=some o/\∃ e∈o.after,Region.binds md e=true/\e.on=x:=by
 grind [kW]
theorem pS {aJ:Array Bool} (xN:∀ j oj,ops[j]?=some oj->aJ.getD j false=true->∀ e∈oj.after,Region.binds md e=true->aJ.getD e.on false=true) :
  ∀ (k:Nat) (l:List Nat),(∀ x∈l,aJ.getD x false=true)->∀ x∈reach md ops k l,aJ.getD x false=true
 | 0,_,h=>h
 | k+1,l,h=>by
  unfold reach;refine pS xN k _ ?_;split
  ·rename_i hc
   intro x hx;rcases List.mem_append.1 hx with q | q
   ·exact h x q
   obtain⟨o,ho,e,he,hb,rfl⟩:=kT.1 q;exact xN k o ho (h k (by simpa using hc)) e he hb
  exact h
end
section
variable {aJ:Array Bool} {j i:Nat}
variable {P : Program} {ops : Array Oper} {Q : Exit -> Act -> World -> Prop} {md : Region.Mode} {S : World -> Prop} {N : Nat -> Bool} {R : List Nat}
def y9 (P:Program) (md:Region.Mode) (ops:Array Oper) (Q:Exit->Act->World->Prop) (S:World->Prop) (N:Nat->Bool):Nat->Array Bool->Act->World->Prop
 | 0,aJ,a,w=>Region.ready md ops aJ=[]/\Q .normal a w
 | fuel+1,aJ,a,w =>
  (Region.ready md ops aJ=[]->Q .normal a w) /\
  ∀ i∈Region.ready md ops aJ,wpOp P ops Q i (λa' w'=>(N i=true->S w')/\y9 P md ops Q S N fuel (aJ.setIfInBounds i true) a' w') a w
theorem y4:∀ (fuel:Nat) (aJ:Array Bool) (a:Act) (w:World),y9 P md ops Q S N fuel aJ a w->wpAny P md ops Q fuel aJ a w
 | 0,_,_,_,h=>h
 | fuel+1,_,_,_,h=>⟨h.1,λi hi=>wpOp_mono (λa' w' h'=>y4 fuel _ a' w' h'.2) (h.2 i hi)⟩
def Down (md:Region.Mode) (ops:Array Oper) (aJ:Array Bool):Prop:=∀ j oj,ops[j]?=some oj->aJ.getD j false=true->∀ e∈oj.after,Region.binds md e=true->aJ.getD e.on false=true
theorem oZ (hd:Down md ops aJ) (hj:j∈Region.ready md ops aJ):Down md ops (aJ.setIfInBounds j true):=by
 intro k ok hk nn e he hb;obtain⟨-,oj,X',cX⟩:=mem_ready.1 hj;by_cases OY:k=j
 ·subst OY
  rw[X'] at hk;cases hk;exact getD_set_true (cX e he hb)
 rw[getD_set_ne false (Ne.symm OY)] at nn;exact getD_set_true (hd k ok hk nn e he hb)
theorem MW (hd:Down md ops aJ) (hj:j∈Region.ready md ops aJ) (hi:aJ.getD i false=false):i ∉ reach md ops ops.size (kW md ops j):=by
 intro h;obtain⟨-,oj,X',cX⟩:=mem_ready.1 hj;have:=pS hd ops.size (kW md ops j) (λx hx=>by
  grind [kT]) i h
 grind
theorem TC (hr:i∈Region.ready md ops aJ):aJ.getD i false=false:=by
 have h0:=(mem_ready.1 hr).1
 all_goals grind
theorem Dr {oi:Oper} {v:Value} (hi:ops[i]?=some oi) (agp:∀ (j:Nat) (o:Oper) cs b,ops[j]?=some o->o.op≠.select cs b)
  (hQ:∀ c a w,Q (.panic c) (a.put oi.dst v) w->Q (.panic c) a w)
  (hN:∀ j,j≠i->i ∉ reach md ops ops.size (kW md ops j)->N j=true) :
  ∀ (fuel:Nat) (aJ:Array Bool) (a:Act) (w:World),Down md ops aJ ->
   (∀ j oj,ops[j]?=some oj->j≠i->aJ.getD j true=false->(∀ e∈oj.after,Region.binds md e=true->e.on≠i)->oi.apart ops oj=true) ->
   i∈Region.ready md ops aJ->YieldsIf P ops S oi v a->S w ->
   y9 P md ops Q S N fuel (aJ.setIfInBounds i true) (a.put oi.dst v) w->y9 P md ops Q S N (fuel+1) aJ a w:=by
 intro fuel
 induction fuel with
 | zero =>
  intro aJ a w _ _ hr hy hS H;refine⟨λh=>(by grind),λj hj=>?_⟩;by_cases nC:j=i
  ·subst nC;exact hy.wpOp hi hS ⟨λ_=>hS,H⟩
  have:=ready_mono hj nC;rw[H.1] at this;cases this
 | succ fuel ih =>
  intro aJ a w xN Gm hr hy hS H;refine⟨λh=>(by grind),λj hj=>?_⟩;by_cases nC:j=i
  ·subst nC;exact hy.wpOp hi hS ⟨λ_=>hS,H⟩
  obtain⟨ael,oj,X',cX⟩:=mem_ready.1 hj;have amg:∀ e∈oj.after,Region.binds md e=true->e.on≠i:=λe he hb heq=>by
   have h1:=cX e he hb;have h0:=(mem_ready.1 hr).1
   all_goals grind
  have hNj:=hN j nC (MW xN hj (TC hr));have h2:=wpOp_putIf X' (Gm j oj X' nC ael amg) (λcs b=>agp i oi cs b hi) (λcs b=>agp j oj cs b X') hQ hy (H.2 j (ready_mono hj nC));refine wpOp_mono (λa' w' h3=>⟨λ_=>h3.2.1 hNj,ih (aJ.setIfInBounds j true) a' w' (oZ xN hj) (λk ok hk hki hun gV=>?_) (ready_mono hr (Ne.symm nC)) h3.1 (h3.2.1 hNj) ?_⟩) h2
  ·refine Gm k ok hk hki ?_ gV
   by_cases hjk:j=k
   ·subst hjk;exact ael
   rw[getD_set_ne true hjk] at hun;exact hun
  rw[Qc _ _ nC];exact h3.2.2
def B8 (md:Region.Mode) (ops:Array Oper) (R:List Nat) (j:Nat):Bool :=
 R.any λi=>i != j&&!(reach md ops ops.size (kW md ops j)).contains i
theorem TM (hi:i∈R) (bn:j≠i) (gV:i ∉ reach md ops ops.size (kW md ops j)):B8 md ops R j=true:=by
 refine List.any_eq_true.2 ⟨i,hi,?_⟩
 grind
def pick (ops:Array Oper) (order:List Nat):List (Nat × Oper):=order.filterMap λi=>(ops[i]?).map λo=>(i,o)
end
inductive Way where
 | done:Way
 | then_:Nat->Way->Way
 | fork:Nat->Nat->Way->Way->Way
def Way.size:Way->Nat
 | done=>0
 | then_ _ r=>r.size+1
 | fork _ _ r s=>max r.size s.size+1
def Way.line:List Nat->Way->Way
 | [],r=>r
 | i :: l,r=>.then_ i (Way.line l r)
section
variable {id i j:Nat} {a:Act} {w:World} {o:Oper}
variable {P : Program} {ops : Array Oper} {Q : Exit -> Act -> World -> Prop} {md : Region.Mode} {S : World -> Prop} {R : List Nat}
def Way.inside (n:Nat):Way->Bool
 | done=>true
 | then_ i r=>decide (i<n)&&r.inside n
 | fork i j r s=>decide (i<n)&&decide (j<n)&&r.inside n&&s.inside n
def nz (md:Region.Mode) (ops:Array Oper) (R:List Nat):Way->Array Bool->Bool
 | .done,aJ=>(Region.ready md ops aJ).isEmpty
 | .then_ i r,aJ=>(if R.contains i then (Region.ready md ops aJ).contains i&&Region.free md ops aJ i else Region.ready md ops aJ==[i])&&nz md ops R r (aJ.setIfInBounds i true)
 | .fork i j r s,aJ=>!R.contains i&&!R.contains j&&Region.ready md ops aJ==[i,j]&&nz md ops R r (aJ.setIfInBounds i true)&&nz md ops R s (aJ.setIfInBounds j true)
def fT (P:Program) (md:Region.Mode) (ops:Array Oper) (Q:Exit->Act->World->Prop) (S:World->Prop) (R:List Nat):Way->Act->World->Prop
 | .done,a,w=>Q .normal a w
 | .then_ i r,a,w =>
  if R.contains i then ∃ o,ops[i]?=some o/\∃ v,YieldsIf P ops S o v a/\S w/\(∀ c a w,Q (.panic c) (a.put o.dst v) w->Q (.panic c) a w)/\fT P md ops Q S R r (a.put o.dst v) w
  else wpOp P ops Q i (λa' w'=>(B8 md ops R i=true->S w')/\fT P md ops Q S R r a' w') a w
 | .fork i j r s,a,w =>
  wpOp P ops Q i (λa' w'=>(B8 md ops R i=true->S w')/\fT P md ops Q S R r a' w') a w /\
  wpOp P ops Q j (λa' w'=>(B8 md ops R j=true->S w')/\fT P md ops Q S R s a' w') a w
theorem j9 (hs:Region.noSelect ops=true):∀ (AJ:Way) (aJ:Array Bool) (a:Act) (w:World) (fuel:Nat),AJ.size<=fuel->AJ.inside ops.size=true->nz md ops R AJ aJ=true->Down md ops aJ ->
  fT P md ops Q S R AJ a w->y9 P md ops Q S (B8 md ops R) fuel aJ a w
 | .done,_,_,_,0,_,_,hc,_,h=>⟨by simpa[nz] using hc,h⟩
 | .done,_,_,_,n+1,_,_,hc,_,h=>⟨λ_=>h,by rw[show Region.ready md ops _=[] by simpa[nz] using hc];simp⟩
 | .then_ i rest,aJ,a,w,0,hl,_,_,_,_=>by simp[Way.size] at hl
 | .fork i j r s,aJ,a,w,0,hl,_,_,_,_=>by simp[Way.size] at hl
 | .then_ i rest,aJ,a,w,fuel+1,hl,aW,hc,xN,h=>by
  simp only[Way.size,Qd] at hl;simp only[Way.inside,Qa,decide_eq_true_eq] at aW;unfold nz at hc;rw[Qa] at hc;unfold fT at h;by_cases hR:R.contains i=true
  ·rw[if_pos hR] at h
   rw[if_pos hR,Qa] at hc;obtain⟨o,ho,v,hy,hS,hQ,h⟩:=h;exact Dr ho (Region.noSelect_spec hs) hQ (λj bn gV=>TM (by simpa using hR) bn gV) fuel aJ a w xN (Region.free_spec ho hc.1.2) (by simpa using hc.1.1) hy hS
    (j9 hs rest _ _ _ fuel hl aW.2 hc.2 (oZ xN (by simpa using hc.1.1)) h)
  rw[if_neg hR] at h hc;have hr:Region.ready md ops aJ=[i]:=by simpa using hc.1
  refine⟨λh0=>(by rw[hr] at h0;cases h0),λj hj=>?_⟩;rw[hr] at hj;obtain rfl:j=i:=by simpa using hj
  exact wpOp_mono (λa' w' h'=>⟨h'.1,j9 hs rest _ a' w' fuel hl aW.2 hc.2 (oZ xN (by rw[hr];simp)) h'.2⟩) h
 | .fork i j r s,aJ,a,w,fuel+1,hl,aW,hc,xN,h=>by
  simp only[Way.size,Qd] at hl;simp only[Way.inside,Qa,decide_eq_true_eq] at aW;unfold nz at hc;simp only[Qa,Bool.not_eq_true',beq_iff_eq] at hc;obtain⟨⟨⟨⟨-,-⟩,hr⟩,dD⟩,bI⟩:=hc;unfold fT at h;refine⟨λh0=>(by rw[hr] at h0;cases h0),λk hk=>?_⟩;rw[hr] at hk;have hk':k=i\/k=j:=by simpa using hk
  rcases hk' with e | e
  ·subst e
   exact wpOp_mono (λa' w' h'=>⟨h'.1,j9 hs r _ a' w' fuel (by omega) aW.1.2 dD (oZ xN (by rw[hr];simp)) h'.2⟩) h.1
  subst e;exact wpOp_mono (λa' w' h'=>⟨h'.1,j9 hs s _ a' w' fuel (by omega) aW.2 bI (oZ xN (by rw[hr];simp)) h'.2⟩) h.2
theorem al (S:World->Prop) (R:List Nat) (AJ:Way) (hm:P.follows .mixedOrders=true)
  (hc:(Region.noSelect ops&&decide (AJ.size<=ops.size)&&AJ.inside ops.size&&nz .any ops R AJ (Array.replicate ops.size false))=true)
  (h:fT P .any ops Q S R AJ a w.drew):(Code.region id ops true).wp P Q a w:=by
 simp only[Qa,decide_eq_true_eq] at hc;exact wp_region_any hm (y4 _ _ _ _ (j9 hc.1.1.1 AJ _ a _ _ hc.1.1.2 hc.1.2 hc.2 (λj _ _ hj=>by simp[Array.getElem?_replicate] at hj;split at hj <;> simp_all) h))
theorem aj {rest:Way} {v:Value} (ho:ops[i]?=some o) (hR:R.contains i=true) (hw:Region.wanted o (yielded ops a.tmps)=true)
  (hQ:∀ c a w,Q (.panic c) (a.put o.dst v) w->Q (.panic c) a w) (hS:S w) (hv:∀ w,S w->(execOp a.eval o).run P w=.ok (.value v) w) (h:fT P md ops Q S R rest (a.put o.dst v) w):fT P md ops Q S R (.then_ i rest) a w:=by
 unfold fT;rw[if_pos hR];exact⟨o,ho,v,Or.inl ⟨hw,hv⟩,hS,hQ,h⟩
theorem cz {rest:Way} (ho:ops[i]?=some o) (hR:R.contains i=true) (hw:Region.wanted o (yielded ops a.tmps)=false)
  (hQ:∀ c a w,Q (.panic c) (a.put o.dst undef) w->Q (.panic c) a w) (hS:S w) (h:fT P md ops Q S R rest (a.put o.dst undef) w):fT P md ops Q S R (.then_ i rest) a w:=by
 unfold fT;rw[if_pos hR];exact⟨o,ho,undef,Or.inr ⟨hw,rfl⟩,hS,hQ,h⟩
theorem bW {rest:Way} (ho:ops[i]?=some o) (hR:R.contains i=false) (hw:Region.wanted o (yielded ops a.tmps)=false)
  (hS:S w) (h:fT P md ops Q S R rest (a.put o.dst undef) w):fT P md ops Q S R (.then_ i rest) a w:=by
 unfold fT;rw[if_neg (by grind)];unfold wpOp
 grind
theorem aq {rest:Way} (ho:ops[i]?=some o) (hR:R.contains i=false) (hw:Region.wanted o (yielded ops a.tmps)=true)
  (h:∀ K:Act->World->Prop,Shut (∀ a w,(B8 md ops R i=true->S w)->fT P md ops Q S R rest a w->K a w)->Oper.wp P o a w K Q):fT P md ops Q S R (.then_ i rest) a w:=by
 unfold fT;rw[if_neg (by grind)];unfold wpOp;simp only[ho,hw,if_true];exact Or.inl (h _ (λa w hS hr=>⟨hS,hr⟩))
theorem JR {r s:Way} (hi:R.contains i=false) (hj:R.contains j=false) (h1:fT P md ops Q S R (.then_ i r) a w) (h2:fT P md ops Q S R (.then_ j s) a w):fT P md ops Q S R (.fork i j r s) a w:=by
 grind [fT]
theorem ar (h:Q .normal a w):fT P md ops Q S R .done a w:=h
end
open Go.RowKit Go.Maps
theorem sC (v:Value) (l:List Int) (n:Int) (w:World) (_hn:bF n) (h:aI w v l) :
  Calls Tryz.prog 55 #[v,.int .i64 n] w λe w'=>e=.returned (.bool (dG l n))/\ai [] w w':=by
 obtain⟨ao,cap,rfl,fx,hm,aS⟩:=h;have iL:=lh fx;have oe:=lh aS;clear fx aS;go_enter Tryz.func55,Tryz.ntmps55;go_wp2;go_loopw [9] (λc wr=>∃ k:Nat,k<=l.length/\c=.int .i64 k/\ai [] w wr/\Hid ((Qe k).all (eH l n)=true)) (λc _=>l.length - (intOf c).toNat);case atStart=>exact⟨0,Qh _,rfl,ai.refl _ _,rfl⟩
 case round =>
  obtain⟨k,hk,rfl,hc,cX⟩:=hrel;have HC:=lh hc;by_cases aW:k<l.length
  ·obtain⟨b,off,rfl,qL⟩:=oe.out (by grind)
   have c0:=hc.c (qL k aW);have hz:=iL.out (l.getD k 0) (by grind);have HF:=lh (λh=>dU (p:=eH l n) aW h);have HS:=lh (eE (eH l n) k);cases k with
   | zero =>
    have HR:=lh (show eH l n 0=!(decide (l.getD 0 0<0) || decide (n<=l.getD 0 0)) by simp[eH]);rw[Qg] at c0;clear qL hc;generalize l.getD 0 0=z at *;by_cases h1:z<0
    ·go_wp2
     go_ret;exact⟨aM (by rw[HR.out] at HF;exact (HF.out (by simp[h1])).symm),HC.out⟩
    by_cases h2:n<=z
    ·go_wp2
     go_ret;exact⟨aM (by rw[HR.out] at HF;exact (HF.out (by simp[h2])).symm),HC.out⟩
    go_wp2;go_roundw;case rel=>exact⟨1,by omega,by go_num,HC.out,lh (by rw[HS.out,HR.out,cX.out];simp[h1,h2])⟩
    case measure=>simp[intOf];omega
   | succ m =>
    have c1:=hc.c (qL m (by omega));have HR:=lh (show eH l n (m+1)=!(decide (l.getD (m+1) 0<0) || decide (n<=l.getD (m+1) 0) || decide (l.getD (m+1) 0<=l.getD m 0)) by simp[eH]);have rX:(((m+1:Nat):Int) - 1)=(m:Int):=by omega
    have hy:=iL.out (l.getD m 0) (by simp[List.getD,show m<l.length by omega]);clear qL hc;generalize l.getD (m+1) 0=z at *;generalize l.getD m 0=y at *;by_cases h1:z<0
    ·go_wp2
     go_ret;exact⟨aM (by rw[HR.out] at HF;exact (HF.out (by simp[h1])).symm),HC.out⟩
    by_cases h2:n<=z
    ·go_wp2
     go_ret;exact⟨aM (by rw[HR.out] at HF;exact (HF.out (by simp[h2])).symm),HC.out⟩
    by_cases h3:z<=y
    ·go_wp2
     go_ret;exact⟨aM (by rw[HR.out] at HF;exact (HF.out (by simp[h3])).symm),HC.out⟩
    go_wp2;go_roundw;case rel=>exact⟨m+2,by omega,by go_num,HC.out,lh (by rw[HS.out,HR.out,cX.out];simp[h1,h2,h3])⟩
    case measure=>simp[intOf];omega
  have e:k=l.length:=by omega
  subst e;go_wp2;go_ret;exact⟨aM cX.out.symm,HC.out⟩
theorem oU (v:Value) (g:Gr) (w:World) (h:cA w v g) :
  Calls Tryz.prog 54 #[v] w λe w'=>e=.returned (.int .i64 g.err)/\ai [] w w':=by
 obtain⟨eo,cap,rfl,hn,hm,fx,aS⟩:=h;have iL:=lh fx;have oe:=lh aS;have HN:=lh hn;have JZ:-9223372036854775808<=g.n:=by have h:=hn;unfold bF at h;simp only[Lit.wf,Qa,decide_eq_true_eq] at h;exact h.1
 clear fx aS;go_enter Tryz.func54,Tryz.ntmps54;have aY:=lh ((ai.refl [] w).alloc (.cells #[.int .i64 g.n,.slice eo g.e.length cap] 24));by_cases h1:g.n<0
 ·have HE:=lh (show g.err=3 by grind [Gr.err])
  go_wp2;go_ret;exact⟨aR HE.out.symm,aY.out⟩
 by_cases h2:1024<g.n
 ·have HE:=lh (show g.err=2 by grind [Gr.err])
  go_wp2;go_ret;exact⟨aR HE.out.symm,aY.out⟩
 have iU:(1024:Int) - g.n<=1024:=by omega
 by_cases h3:1024 - g.n<(g.e.length:Int)
 ·have HE:=lh (show g.err=2 by grind [Gr.err])
  go_wp2;go_ret;exact⟨aR HE.out.symm,aY.out⟩
 have xI:=lh (show g.err=if (Qe g.e.length).all g.cL then 0 else 3 by unfold Gr.err;rw[if_neg h1,if_neg (by omega)]);have qw:(w.alloc (.cells #[.int .i64 g.n,.slice eo g.e.length cap] 24)).cell? ⟨w.heap.size,0,none⟩=some (.int .i64 g.n):=by rw[cell_of_row _ _ 0 _ _ _ (heap_alloc_new w _)];rfl
 have YB:=lh qw;clear qw;go_wp2;generalize (w.alloc (.cells #[.int .i64 g.n,.slice eo g.e.length cap] 24))=w1 at *;generalize w.heap.size=gb at *;go_loopw [23] (λc wr=>∃ k:Nat,k<=g.e.length/\c=.int .i64 k/\ai [] w1 wr/\Hid ((Qe k).all g.cL=true)) (λc _=>g.e.length - (intOf c).toNat);case atStart=>exact⟨0,Qh _,rfl,ai.refl _ _,rfl⟩
 case round =>
  obtain⟨k,hk,rfl,hc,cX⟩:=hrel;have HC:=lh hc;have cn:=λo=>fO (hc.c YB.out) o;by_cases aW:k<g.e.length
  ·obtain⟨b,off,rfl,fs,dD⟩:=oe.out k aW
   have c0:=hc.c (aY.out.c fs);have c1:=hc.c (aY.out.c dD);obtain⟨z1,z2⟩:=iL.out k aW;have HF:=lh (λh=>dU (p:=g.cL) aW h);have HS:=lh (eE g.cL k);have HR:=lh (show g.cL k=!(decide ((g.ends k).1<0) || decide (g.n<=(g.ends k).1) || decide ((g.ends k).2<0) || decide (g.n<=(g.ends k).2)) from rfl);clear fs dD hc;generalize (g.ends k).1=x at *;generalize (g.ends k).2=y at *;by_cases p1:x<0
   ·have HE:=lh (xI.out.trans (if_neg (by rw[HF.out (by rw[HR.out];simp[p1])];decide)))
    go_wp2;go_ret;exact⟨aR HE.out.symm,aY.out.t (HC.out.alloc _)⟩
   skip
   by_cases p2:g.n<=x
   ·have HE:=lh (xI.out.trans (if_neg (by rw[HF.out (by rw[HR.out];simp[p2])];decide)))
    go_wp2;go_ret;exact⟨aR HE.out.symm,aY.out.t (HC.out.alloc _)⟩
   skip
   by_cases p3:y<0
   ·have HE:=lh (xI.out.trans (if_neg (by rw[HF.out (by rw[HR.out];simp[p3])];decide)))
    go_wp2;go_ret;exact⟨aR HE.out.symm,aY.out.t (HC.out.alloc _)⟩
   skip
   by_cases p4:g.n<=y
   ·have HE:=lh (xI.out.trans (if_neg (by rw[HF.out (by rw[HR.out];simp[p4])];decide)))
    go_wp2;go_ret;exact⟨aR HE.out.symm,aY.out.t (HC.out.alloc _)⟩
   skip
   have HK:=lh (show (Qe (k+1)).all g.cL=true by rw[HS.out,HR.out,cX.out];simp[p1,p2,p3,p4]);go_wp2;go_roundw;case rel=>exact⟨k+1,by omega,by go_num,HC.out.alloc _,HK⟩
   case measure=>simp[intOf];omega
  have e:k=g.e.length:=by omega
  subst e;have HE:=lh (xI.out.trans (if_pos cX.out));go_wp2;go_ret;exact⟨aR HE.out.symm,aY.out.t HC.out⟩
end Go.Proofs.YtoiflofhcmjpoaaGreat
namespace Go.Proofs
open Go.Shelf
def Tryz.GY:Go.Shelf.Ren:=⟨λ| 189=>59 | 125=>111 | 257=>110 | 128=>164 | 129=>165 | 294=>156 | 295=>157 | 296=>158 | 297=>159 | 298=>160 | 299=>161 | 216=>154 | 300=>162 | 301=>163 | 328=>196 | 329=>197 | 330=>198 | 331=>199 | 332=>200 | 215=>152 | 343=>207 | n=>n,λ| 28=>25 | 3=>3 | 46=>148 | 0=>0 | 51=>189 | 53=>191 | 4=>4 | 183=>183 | 182=>182 | 131=>114 | 5=>5 | 9=>9 | 218=>208 | 222=>212 | 228=>218 | 229=>219 | n=>n,λ| n=>n⟩
theorem Tryz.LG:Go.Proofs.Lays.n189 Tryz.prog Tryz.GY:={
 mixed:=by kernel_rfl
 f125:=Tryz.func111.trans (congrArg some (by kernel_rfl))
 f128:=Tryz.func164.trans (congrArg some (by kernel_rfl))
 f129:=Tryz.func165.trans (congrArg some (by kernel_rfl))
 f189:=Tryz.func59.trans (congrArg some (by kernel_rfl))
 f215:=Tryz.func152.trans (congrArg some (by kernel_rfl))
 f216:=Tryz.func154.trans (congrArg some (by kernel_rfl))
 f257:=Tryz.func110.trans (congrArg some (by kernel_rfl))
 f294:=Tryz.func156.trans (congrArg some (by kernel_rfl))
 f295:=Tryz.func157.trans (congrArg some (by kernel_rfl))
 f296:=Tryz.func158.trans (congrArg some (by kernel_rfl))
 f297:=Tryz.func159.trans (congrArg some (by kernel_rfl))
 f298:=Tryz.func160.trans (congrArg some (by kernel_rfl))
 f299:=Tryz.func161.trans (congrArg some (by kernel_rfl))
 f300:=Tryz.func162.trans (congrArg some (by kernel_rfl))
 f301:=Tryz.func163.trans (congrArg some (by kernel_rfl))
 f328:=Tryz.func196.trans (congrArg some (by kernel_rfl))
 f329:=Tryz.func197.trans (congrArg some (by kernel_rfl))
 f330:=Tryz.func198.trans (congrArg some (by kernel_rfl))
 f331:=Tryz.func199.trans (congrArg some (by kernel_rfl))
 f332:=Tryz.func200.trans (congrArg some (by kernel_rfl))
 f343:=Tryz.func207.trans (congrArg some (by kernel_rfl))
 t0:=Tryz.underlying0
 a0:=Tryz.isAgg0
 z0:=Tryz.sizeOf0
 v0:=Tryz.zeroValue0
 t3:=Tryz.underlying3
 a3:=Tryz.isAgg3
 z3:=Tryz.sizeOf3
 v3:=Tryz.zeroValue3
 t4:=Tryz.underlying4
 a4:=Tryz.isAgg4
 z4:=Tryz.sizeOf4
 v4:=Tryz.zeroValue4
 t5:=Tryz.underlying5
 a5:=Tryz.isAgg5
 z5:=Tryz.sizeOf5
 v5:=Tryz.zeroValue5
 t9:=Tryz.underlying9
 a9:=Tryz.isAgg9
 z9:=Tryz.sizeOf9
 v9:=Tryz.zeroValue9
 t28:=Tryz.underlying25
 a28:=Tryz.isAgg25
 z28:=Tryz.sizeOf25
 v28:=Tryz.zeroValue25
 t46:=Tryz.underlying148
 a46:=Tryz.isAgg148
 z46:=Tryz.sizeOf148
 v46:=Tryz.zeroValue148
 t51:=Tryz.underlying189
 a51:=Tryz.isAgg189
 z51:=Tryz.sizeOf189
 v51:=Tryz.zeroValue189
 t53:=Tryz.underlying191
 a53:=Tryz.isAgg191
 z53:=Tryz.sizeOf191
 v53:=Tryz.zeroValue191
 t131:=Tryz.underlying114
 a131:=Tryz.isAgg114
 z131:=Tryz.sizeOf114
 v131:=Tryz.zeroValue114
 t182:=Tryz.underlying182
 a182:=Tryz.isAgg182
 z182:=Tryz.sizeOf182
 v182:=Tryz.zeroValue182
 t183:=Tryz.underlying183
 a183:=Tryz.isAgg183
 z183:=Tryz.sizeOf183
 v183:=Tryz.zeroValue183
 t218:=Tryz.underlying208
 a218:=Tryz.isAgg208
 z218:=Tryz.sizeOf208
 v218:=Tryz.zeroValue208
 t222:=Tryz.underlying212
 a222:=Tryz.isAgg212
 z222:=Tryz.sizeOf212
 v222:=Tryz.zeroValue212
 t228:=Tryz.underlying218
 a228:=Tryz.isAgg218
 z228:=Tryz.sizeOf218
 v228:=Tryz.zeroValue218
 t229:=Tryz.underlying219
 a229:=Tryz.isAgg219
 z229:=Tryz.sizeOf219
 v229:=Tryz.zeroValue219 }
open Go.Sort Go.RowKit in
theorem Tryz.slices_Sort_int (xR off cap:Nat) (zs:List Int) (w:World) (hH:Holds (Qb .i64) w xR off zs.toArray) (hblk:xR<w.heap.size) (bs:zs.length<4611686018427387904) :
  Calls Tryz.prog 59 #[.slice (some ⟨xR,off,none⟩) zs.length cap] w λe w' =>
   e=.returned (.tuple #[])/\∃ n os,w'=grow (putRow (Qb .i64) (Sort.ahead w n) xR off (zs.mergeSort λx y=>decide (x<=y)).toArray) os:=Any.slices_Sort_int Tryz.LG xR off cap zs w hH hblk bs
def Tryz.GB:Go.Shelf.Ren:=⟨λ| 108=>136 | n=>n,λ| 28=>25 | 3=>3 | 0=>0 | 4=>4 | n=>n,λ| n=>n⟩
theorem Tryz.Mt:Go.Proofs.Lays.n108 Tryz.prog Tryz.GB:={
 mixed:=by kernel_rfl
 f108:=Tryz.func136.trans (congrArg some (by kernel_rfl))
 t0:=Tryz.underlying0
 a0:=Tryz.isAgg0
 z0:=Tryz.sizeOf0
 v0:=Tryz.zeroValue0
 t3:=Tryz.underlying3
 a3:=Tryz.isAgg3
 z3:=Tryz.sizeOf3
 v3:=Tryz.zeroValue3
 t4:=Tryz.underlying4
 a4:=Tryz.isAgg4
 z4:=Tryz.sizeOf4
 v4:=Tryz.zeroValue4
 t28:=Tryz.underlying25
 a28:=Tryz.isAgg25
 z28:=Tryz.sizeOf25
 v28:=Tryz.zeroValue25 }
open Go.Lib in
theorem Tryz.slices_Index_int (b off n c:Nat) (zs:List Int) (x:Int) (w:World) (hz:n<=zs.length) (DV:n<=9223372036854775807) (hc:∀ j,j<zs.length->w.cell? ⟨b,off+j,none⟩=some (.int .i64 (zs.getD j 0))) :
  Calls Tryz.prog 136 #[.slice (some ⟨b,off,none⟩) n c,.int .i64 x] w λe w'=>e=.returned (.int .i64 (Lib.idxOf (zs.take n) x))/\w'=w:=Any.slices_Index_int Tryz.Mt b off n c zs x w hz DV hc
open Go.Lib in
theorem Tryz.slices_Index_int_empty (a:Option Addr) (c:Nat) (x:Int) (w:World) :
  Calls Tryz.prog 136 #[.slice a 0 c,.int .i64 x] w λe w'=>e=.returned (.int .i64 (Lib.idxOf [] x))/\w'=w:=Any.slices_Index_int_empty Tryz.Mt a c x w
def Tryz.ER:Go.Shelf.Ren:=⟨λ| 107=>179 | 108=>136 | n=>n,λ| 28=>25 | 3=>3 | 4=>4 | 0=>0 | n=>n,λ| n=>n⟩
theorem Tryz.Lv:Go.Proofs.Lays.n107 Tryz.prog Tryz.ER:={
 mixed:=by kernel_rfl
 f107:=Tryz.func179.trans (congrArg some (by kernel_rfl))
 f108:=Tryz.func136.trans (congrArg some (by kernel_rfl))
 t0:=Tryz.underlying0
 a0:=Tryz.isAgg0
 z0:=Tryz.sizeOf0
 v0:=Tryz.zeroValue0
 t3:=Tryz.underlying3
 a3:=Tryz.isAgg3
 z3:=Tryz.sizeOf3
 v3:=Tryz.zeroValue3
 t4:=Tryz.underlying4
 a4:=Tryz.isAgg4
 z4:=Tryz.sizeOf4
 v4:=Tryz.zeroValue4
 t28:=Tryz.underlying25
 a28:=Tryz.isAgg25
 z28:=Tryz.sizeOf25
 v28:=Tryz.zeroValue25 }
open Go.Lib in
theorem Tryz.slices_Contains_int (b off n c:Nat) (zs:List Int) (x:Int) (w:World) (hz:n<=zs.length) (DV:n<=9223372036854775807) (hc:∀ j,j<zs.length->w.cell? ⟨b,off+j,none⟩=some (.int .i64 (zs.getD j 0))) :
  Calls Tryz.prog 179 #[.slice (some ⟨b,off,none⟩) n c,.int .i64 x] w λe w'=>e=.returned (.bool ((zs.take n).contains x))/\w'=w:=Any.slices_Contains_int Tryz.Lv b off n c zs x w hz DV hc
open Go.Lib in
theorem Tryz.slices_Contains_int_empty (a:Option Addr) (c:Nat) (x:Int) (w:World) :
  Calls Tryz.prog 179 #[.slice a 0 c,.int .i64 x] w λe w'=>e=.returned (.bool false)/\w'=w:=Any.slices_Contains_int_empty Tryz.Lv a c x w
def Tryz.Gl:Go.Shelf.Ren:=⟨λ| 112=>202 | n=>n,λ| 28=>25 | 3=>3 | 4=>4 | 0=>0 | n=>n,λ| n=>n⟩
theorem Tryz.Ly:Go.Proofs.Lays.n112 Tryz.prog Tryz.Gl:={
 mixed:=by kernel_rfl
 f112:=Tryz.func202.trans (congrArg some (by kernel_rfl))
 t0:=Tryz.underlying0
 a0:=Tryz.isAgg0
 z0:=Tryz.sizeOf0
 v0:=Tryz.zeroValue0
 t3:=Tryz.underlying3
 a3:=Tryz.isAgg3
 z3:=Tryz.sizeOf3
 v3:=Tryz.zeroValue3
 t4:=Tryz.underlying4
 a4:=Tryz.isAgg4
 z4:=Tryz.sizeOf4
 v4:=Tryz.zeroValue4
 t28:=Tryz.underlying25
 a28:=Tryz.isAgg25
 z28:=Tryz.sizeOf25
 v28:=Tryz.zeroValue25 }
open Go.RowKit Go.Lib Go.Sort in
theorem Tryz.slices_Reverse_int (xR off cap:Nat) (zs:List Int) (w:World) (hH:Holds (Qb .i64) w xR off zs.toArray) (bs:zs.length<=9223372036854775807) :
  Calls Tryz.prog 202 #[.slice (some ⟨xR,off,none⟩) zs.length cap] w λe w'=>e=.returned (.tuple #[])/\∃ n,w'=putRow (Qb .i64) (Sort.ahead w n) xR off zs.reverse.toArray:=Any.slices_Reverse_int Tryz.Ly xR off cap zs w hH bs
open Go.RowKit Go.Lib Go.Sort in
theorem Tryz.slices_Reverse_int_empty (a:Option Addr) (cap:Nat) (w:World) :
  Calls Tryz.prog 202 #[.slice a 0 cap] w λe w'=>e=.returned (.tuple #[])/\w'=w:=Any.slices_Reverse_int_empty Tryz.Ly a cap w
def Tryz.Gu:Go.Shelf.Ren:=⟨λ| 111=>166 | n=>n,λ| 28=>25 | 3=>3 | 4=>4 | 0=>0 | n=>n,λ| n=>n⟩
theorem Tryz.Dk:Go.Proofs.Lays.n111 Tryz.prog Tryz.Gu:={
 mixed:=by kernel_rfl
 f111:=Tryz.func166.trans (congrArg some (by kernel_rfl))
 t0:=Tryz.underlying0
 a0:=Tryz.isAgg0
 z0:=Tryz.sizeOf0
 v0:=Tryz.zeroValue0
 t3:=Tryz.underlying3
 a3:=Tryz.isAgg3
 z3:=Tryz.sizeOf3
 v3:=Tryz.zeroValue3
 t4:=Tryz.underlying4
 a4:=Tryz.isAgg4
 z4:=Tryz.sizeOf4
 v4:=Tryz.zeroValue4
 t28:=Tryz.underlying25
 a28:=Tryz.isAgg25
 z28:=Tryz.sizeOf25
 v28:=Tryz.zeroValue25 }
open Go.RowKit Go.Lib in
theorem Tryz.slices_Equal_int (b1 o1 n c b2 o2 m d:Nat) (xs ys:List Int) (w:World) (hx:n<=xs.length) (hy:m<=ys.length) (DV:n<=9223372036854775807) (Uo:m<=9223372036854775807) (dD:∀ j,j<xs.length->w.cell? ⟨b1,o1+j,none⟩=some (.int .i64 (xs.getD j 0))) (bI:∀ j,j<ys.length->w.cell? ⟨b2,o2+j,none⟩=some (.int .i64 (ys.getD j 0))) :
  Calls Tryz.prog 166 #[.slice (some ⟨b1,o1,none⟩) n c,.slice (some ⟨b2,o2,none⟩) m d] w λe w'=>e=.returned (.bool (xs.take n==ys.take m))/\∃ q,w'=w.drewN q:=Any.slices_Equal_int Tryz.Dk b1 o1 n c b2 o2 m d xs ys w hx hy DV Uo dD bI
open Go.RowKit Go.Lib in
theorem Tryz.slices_Equal_int_empty (a1 a2:Option Addr) (c m d:Nat) (w:World) (Uo:m<=9223372036854775807) :
  Calls Tryz.prog 166 #[.slice a1 0 c,.slice a2 m d] w λe w'=>e=.returned (.bool (decide (m=0)))/\w'=w:=Any.slices_Equal_int_empty Tryz.Dk a1 a2 c m d w Uo
def Tryz.A9:Go.Shelf.Ren:=⟨λ| 15=>53 | n=>n,λ| 22=>25 | 3=>3 | 4=>4 | n=>n,λ| n=>n⟩
theorem Tryz.vJ:Go.Proofs.Lays2.n15 Tryz.prog Tryz.A9:={
 mixed:=by kernel_rfl
 f15:=Tryz.func53.trans (congrArg some (by kernel_rfl))
 t3:=Tryz.underlying3
 a3:=Tryz.isAgg3
 z3:=Tryz.sizeOf3
 v3:=Tryz.zeroValue3
 t4:=Tryz.underlying4
 a4:=Tryz.isAgg4
 z4:=Tryz.sizeOf4
 v4:=Tryz.zeroValue4
 t22:=Tryz.underlying25
 a22:=Tryz.isAgg25
 z22:=Tryz.sizeOf25
 v22:=Tryz.zeroValue25
 i3:=by kernel_rfl }
open Go.RowKit Go.Lib in
theorem Tryz.slices_Clone_int (b off n c:Nat) (zs:List Int) (w:World) (hz:n<=zs.length) (DV:n*8<=140737488355328) (hc:∀ j,j<zs.length->w.cell? ⟨b,off+j,none⟩=some (.int .i64 (zs.getD j 0))) :
  Calls Tryz.prog 53 #[.slice (some ⟨b,off,none⟩) n c] w λe w'=>∃ v',e=.returned v'/\w'.ownsRow w.heap.size 3 1 v' n ((zs.take n).map (Qb .i64))/\v'≠.slice none 0 0/\Below w.heap.size w w':=Any.slices_Clone_int Tryz.vJ b off n c zs w hz DV hc
open Go.RowKit Go.Lib in
theorem Tryz.slices_Clone_int_nil (n c:Nat) (w:World) :
  Calls Tryz.prog 53 #[.slice none n c] w λe w'=>e=.returned (.slice none 0 0)/\w'=w:=Any.slices_Clone_int_nil Tryz.vJ n c w
open Go.RowKit Go.Lib in
theorem Tryz.slices_Clone_int_zero (a:Addr) (c:Nat) (w:World) :
  Calls Tryz.prog 53 #[.slice (some a) 0 c] w λe w'=>∃ v',e=.returned v'/\w'.ownsRow w.heap.size 3 1 v' 0 []/\v'≠.slice none 0 0/\Below w.heap.size w w':=Any.slices_Clone_int_zero Tryz.vJ a c w
def Tryz.Bj:Go.Shelf.Ren:=⟨λ| 20=>60 | n=>n,λ| 22=>25 | 3=>3 | 4=>4 | 0=>0 | n=>n,λ| n=>n⟩
theorem Tryz.Bx:Go.Proofs.Lays2.n20 Tryz.prog Tryz.Bj:={
 mixed:=by kernel_rfl
 f20:=Tryz.func60.trans (congrArg some (by kernel_rfl))
 t0:=Tryz.underlying0
 a0:=Tryz.isAgg0
 z0:=Tryz.sizeOf0
 v0:=Tryz.zeroValue0
 t3:=Tryz.underlying3
 a3:=Tryz.isAgg3
 z3:=Tryz.sizeOf3
 v3:=Tryz.zeroValue3
 t4:=Tryz.underlying4
 a4:=Tryz.isAgg4
 z4:=Tryz.sizeOf4
 v4:=Tryz.zeroValue4
 t22:=Tryz.underlying25
 a22:=Tryz.isAgg25
 z22:=Tryz.sizeOf25
 v22:=Tryz.zeroValue25
 i3:=by kernel_rfl }
open Go.RowKit Go.Lib Go.Sort in
theorem Tryz.slices_Compact_int (xR off cap:Nat) (zs:List Int) (w:World) (hH:Holds (Qb .i64) w xR off zs.toArray) (bs:zs.length<=9223372036854775807) (oK:zs.length<=cap) :
  Calls Tryz.prog 60 #[.slice (some ⟨xR,off,none⟩) zs.length cap] w λe w'=>e=.returned (.slice (some ⟨xR,off,none⟩) (Lib.compact zs).length cap)/\∃ q,w'=putRow (Qb .i64) (Sort.ahead w q) xR off (Lib.compact zs++Qf (zs.length - (Lib.compact zs).length) 0).toArray:=Any.slices_Compact_int Tryz.Bx xR off cap zs w hH bs oK
open Go.RowKit Go.Lib Go.Sort in
theorem Tryz.slices_Compact_int_empty (a:Option Addr) (cap:Nat) (w:World) :
  Calls Tryz.prog 60 #[.slice a 0 cap] w λe w'=>e=.returned (.slice a 0 cap)/\w'=w:=Any.slices_Compact_int_empty Tryz.Bx a cap w
def Tryz.Bo:Go.Shelf.Ren:=⟨λ| 25=>108 | 31=>154 | 32=>155 | 37=>152 | n=>n,λ| 22=>25 | 3=>3 | 4=>4 | 40=>148 | 0=>0 | n=>n,λ| n=>n⟩
theorem Tryz.Ck:Go.Proofs.Lays2.n25 Tryz.prog Tryz.Bo:={
 mixed:=by kernel_rfl
 f25:=Tryz.func108.trans (congrArg some (by kernel_rfl))
 f31:=Tryz.func154.trans (congrArg some (by kernel_rfl))
 f32:=Tryz.func155.trans (congrArg some (by kernel_rfl))
 f37:=Tryz.func152.trans (congrArg some (by kernel_rfl))
 t0:=Tryz.underlying0
 a0:=Tryz.isAgg0
 z0:=Tryz.sizeOf0
 v0:=Tryz.zeroValue0
 t3:=Tryz.underlying3
 a3:=Tryz.isAgg3
 z3:=Tryz.sizeOf3
 v3:=Tryz.zeroValue3
 t4:=Tryz.underlying4
 a4:=Tryz.isAgg4
 z4:=Tryz.sizeOf4
 v4:=Tryz.zeroValue4
 t22:=Tryz.underlying25
 a22:=Tryz.isAgg25
 z22:=Tryz.sizeOf25
 v22:=Tryz.zeroValue25
 t40:=Tryz.underlying148
 a40:=Tryz.isAgg148
 z40:=Tryz.sizeOf148
 v40:=Tryz.zeroValue148 }
open Go.RowKit Go.Lib in
theorem Tryz.slices_BinarySearch_int (b off n c:Nat) (zs:List Int) (x:Int) (w:World) (hz:n<=zs.length) (DV:n<4611686018427387904) (hc:∀ j,j<zs.length->w.cell? ⟨b,off+j,none⟩=some (.int .i64 (zs.getD j 0))) (hs:(zs.take n).Pairwise (·<=·)) :
  Calls Tryz.prog 108 #[.slice (some ⟨b,off,none⟩) n c,.int .i64 x] w λe w'=>e=.returned (.tuple #[.int .i64 ((zs.take n).countP (·<x):Nat),.bool ((zs.take n).contains x)])/\∃ q,w'=w.drewN q:=Any.slices_BinarySearch_int Tryz.Ck b off n c zs x w hz DV hc hs
def Tryz.Bi:Go.Shelf.Ren:=⟨λ| 23=>137 | n=>n,λ| 22=>25 | 3=>3 | 4=>4 | 0=>0 | n=>n,λ| n=>n⟩
theorem Tryz.MS:Go.Proofs.Lays2.n23 Tryz.prog Tryz.Bi:={
 mixed:=by kernel_rfl
 f23:=Tryz.func137.trans (congrArg some (by kernel_rfl))
 t0:=Tryz.underlying0
 a0:=Tryz.isAgg0
 z0:=Tryz.sizeOf0
 v0:=Tryz.zeroValue0
 t3:=Tryz.underlying3
 a3:=Tryz.isAgg3
 z3:=Tryz.sizeOf3
 v3:=Tryz.zeroValue3
 t4:=Tryz.underlying4
 a4:=Tryz.isAgg4
 z4:=Tryz.sizeOf4
 v4:=Tryz.zeroValue4
 t22:=Tryz.underlying25
 a22:=Tryz.isAgg25
 z22:=Tryz.sizeOf25
 v22:=Tryz.zeroValue25
 i3:=by kernel_rfl }
open Go.RowKit Go.Lib Go.Sort in
theorem Tryz.slices_Delete_int (xR off cap i j:Nat) (zs:List Int) (w:World) (hH:Holds (Qb .i64) w xR off zs.toArray) (oK:zs.length<=cap) (hm:cap<=9223372036854775807) (Uw:i<=j) (hj:j<=zs.length) :
  Calls Tryz.prog 137 #[.slice (some ⟨xR,off,none⟩) zs.length cap,.int .i64 i,.int .i64 j] w λe w'=>e=.returned (.slice (some ⟨xR,off,none⟩) (zs.length - (j - i)) cap)/\∃ q,w'=putRow (Qb .i64) (Sort.ahead w q) xR off (zs.take i++zs.drop j++Qf (j - i) 0).toArray:=Any.slices_Delete_int Tryz.MS xR off cap i j zs w hH oK hm Uw hj
open Go.RowKit Go.Sort in
theorem Tryz.slices_Sort_int_none (p:Option Addr) (cap:Nat) (w:World) :
  Calls Tryz.prog 59 #[.slice p 0 cap] w λe w'=>e=.returned (.tuple #[])/\w'=w:=Any.slices_Sort_int_none Tryz.LG p cap w
open Go.RowKit Go.Lib in
theorem Tryz.slices_BinarySearch_int_empty (a:Option Addr) (c:Nat) (x:Int) (w:World) :
  Calls Tryz.prog 108 #[.slice a 0 c,.int .i64 x] w λe w'=>e=.returned (.tuple #[.int .i64 0,.bool false])/\w'=w:=Any.slices_BinarySearch_int_empty Tryz.Ck a c x w
open Go.RowKit Go.Lib in
theorem Tryz.slices_Equal_int_lens (a1 a2:Option Addr) (n c m d:Nat) (w:World) (hnm:n≠m) :
  Calls Tryz.prog 166 #[.slice a1 n c,.slice a2 m d] w λe w'=>e=.returned (.bool false)/\w'=w:=Any.slices_Equal_int_lens Tryz.Dk a1 a2 n c m d w hnm
