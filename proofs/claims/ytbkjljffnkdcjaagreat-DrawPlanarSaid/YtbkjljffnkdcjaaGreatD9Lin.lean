/- A region that draws its order, whose operations read, or make what then stays: walked one operation at a time, each from whatever the others have left. No program here. -/
import Derived.Deep.RegionHeld3
import Derived.Test.YtbkjljffnkdcjaaGreatD9Euler
import Derived.Shelf.Small.Bits
import Derived.Shelf.Small.Wraps
import Derived.Shelf.Strconv.Itoa0
import Derived.Shelf.Sort.Plain
import Derived.Shelf.Slices.Turned
import Derived.Shelf.Slices.Reverse
import Derived.Shelf.Slices.Equal
import Derived.Ground.Names2Prog
import Derived.Shelf.Slices.Clone
import Derived.Shelf.Slices.CompactI
import Derived.Shelf.Slices.SearchI
import Derived.Shelf.Slices.Delete
import Derived.Shelf.Slices.Cells
import Derived.Shelf.Slices.In.SortNone
import Derived.Shelf.Slices.Empties
import Derived.Shelf.Slices.Empties2
import Derived.Ground.SlsfProg
import Derived.Shelf.SlSortCmp.Insertion
import Derived.Shelf.SlSortCmp.SiftDown1
import Derived.Shelf.SlSortCmp.HeapSort1
import Derived.Shelf.SlSortCmp.Insertion1
import Derived.Shelf.SlSortCmp.Median1
import Derived.Shelf.SlSortCmp.Pivot1
import Derived.Shelf.SlSortCmp.ReverseRange1
import Derived.Shelf.SlSortCmp.PartialInsertion1
import Derived.Shelf.SlSortCmp.PartitionEqual1
import Derived.Shelf.SlSortCmp.Partition1
import Derived.Test.YtbkjljffnkdcjaaGreatProg
open Bool renaming and_eq_true→Qa,not_eq_true'→Qg
open Go.Value renaming int→Qb
open Array renaming setIfInBounds_comm→Qc,getElem?_eq_none→Qe
open Nat renaming add_le_add_iff_right→Qd,add_zero→Qi,lt_or_ge→Qj,zero_le→Qk
open List renaming range→Qf,replicate→Qh
open Go.Act renaming put→Ql
namespace Go.Proofs.YtbkjljffnkdcjaaGreat
open Go
section
variable {P : Program} {ops : Array Oper} {Q : Exit -> Act -> World -> Prop} {md : Region.Mode}
def jL (aR:Nat->Value):Nat->List Oper->Act->Act
 | _,[],a=>a
 | i,o :: r,a=>jL aR (i+1) r (a.put o.dst (aR i))
theorem put_comm (a:Act) {d e:Option Nat} (u v:Value) (h:∀ x,d=some x->e≠some x):(a.put d u).put e v=(a.put e v).put d u:=by
 cases d with
 | none=>rfl
 | some x =>
  cases e with
  | none=>rfl
  | some y =>
   have:x≠y:=fun q=>h x rfl (by rw[q]);simp only[Ql,Qc _ _ this]
theorem UD (a:Act) (d:Option Nat) (u v:Value):(a.put d u).put d v=a.put d v:=by
 cases d with
 | none=>rfl
 | some x=>simp only[Ql,Array.setIfInBounds_setIfInBounds]
theorem AN (aR:Nat->Value) (d:Option Nat) (v:Value):∀ (l:List Oper) (i:Nat) (a:Act),(∀ o∈l,∀ x,d=some x->o.dst≠some x)->jL aR i l (a.put d v)=(jL aR i l a).put d v
 | [],_,_,_=>rfl
 | o :: r,i,a,h=>by
  simp only[jL];rw[put_comm a v (aR i) (h o (by simp)),AN aR d v r (i+1) _ (fun o ho=>h o (by simp[ho]))]
def pS (aR:Nat->Value) (i:Nat) (v:Value):Nat->Value:=fun j=>if j=i then v else aR j
theorem tC (aR:Nat->Value) (k:Nat) (v:Value):∀ (l:List Oper) (i:Nat) (a:Act),k<i->jL (pS aR k v) i l a=jL aR i l a
 | [],_,_,_=>rfl
 | o :: r,i,a,h=>by
  simp only[jL];rw[tC aR k v r (i+1) _ (by omega),show pS aR k v i=aR i from if_neg (by omega)]
def apart:List Oper->Bool
 | []=>true
 | o :: r=>(match o.dst with | none=>true | some x=>r.all fun p=>p.dst != some x)&&apart r
theorem apart_spec {o:Oper} {r:List Oper} (h:apart (o :: r)=true):(∀ p∈r,∀ x,o.dst=some x->p.dst≠some x)/\apart r=true:=by
 rw[apart,Qa] at h;refine⟨fun p hp x hx=>?_,h.2⟩;have:=h.1;rw[hx] at this;simpa using List.all_eq_true.1 this p hp
theorem AT (aR:Nat->Value) (v:Value):∀ (l:List Oper) (i k:Nat) (o:Oper) (a:Act),apart l=true->l[k]?=some o->jL (pS aR (i+k) v) i l a=(jL aR i l a).put o.dst v
 | [],_,_,_,_,_,hk=>by simp at hk
 | p :: r,i,0,o,a,ha,hk=>by
  simp only[List.getElem?_cons_zero,Option.some.injEq] at hk;subst hk;have:=apart_spec ha;simp only[jL,Qi];rw[tC aR i v r (i+1) _ (by omega),show pS aR i v i=v from if_pos rfl,<-UD a p.dst (aR i) v,AN aR p.dst v r (i+1) _ this.1]
 | p :: r,i,k+1,o,a,ha,hk=>by
  simp only[List.getElem?_cons_succ] at hk;simp only[jL];rw[show pS aR (i+(k+1)) v i=aR i from if_neg (by omega),show i+(k+1)=(i+1)+k by omega];exact AT aR v r (i+1) k o _ (apart_spec ha).2 hk
def held (a:Act) (o:Oper):Value:=match o.dst with | none=>undef | some x=>a.tmps.getD x undef
theorem Ud (a:Act) (o:Oper):a.put o.dst (held a o)=a:=by
 unfold held;cases hd:o.dst with
 | none=>rfl
 | some x =>
  simp only[Ql];have:a.tmps.setIfInBounds x (a.tmps.getD x undef)=a.tmps:=by
   apply Array.ext
   ·simp
   intro i h1 h2;rw[Array.getElem_setIfInBounds];split
   ·rename_i e;subst e;simp[Array.getD,h2]
   rfl
  rw[this]
theorem Ar (aR:Nat->Value) (a:Act):∀ (l:List Oper) (i:Nat),(∀ k o,l[k]?=some o->aR (i+k)=held a o)->jL aR i l a=a
 | [],_,_=>rfl
 | o :: r,i,h=>by
  simp only[jL];rw[show aR i=held a o by simpa using h 0 o rfl,Ud];exact Ar aR a r (i+1) (fun k p hk=>by rw[<-h (k+1) p (by simpa using hk)];congr 1;omega)
def gz (L:List (Value->World->Prop)) (aR:Nat->Value) (w:World):List Nat->Prop
 | []=>True
 | d :: r=>(L.getD d (fun _ _=>True)) (aR d) w/\gz L aR w r
structure Info where
 deps:List Nat
 con:List Nat
 lin:Bool
def aL:Value->List Nat
 | .agg vs=>vs.toList.flatMap fun v=>v.ownBlock.toList
 | v=>v.ownBlock.toList
theorem tY {L L':List (Value->World->Prop)} {aR:Nat->Value} {w:World}:∀ {d:List Nat},(∀ x∈d,L.getD x (fun _ _=>True)=L'.getD x (fun _ _=>True))->gz L aR w d=gz L' aR w d
 | [],_=>rfl
 | x :: r,h=>by
  simp only[gz];rw[h x (by simp),tY (fun y hy=>h y (by simp[hy]))]
theorem xh {L:List (Value->World->Prop)} {aR:Nat->Value} {w:World}:∀ {d:List Nat},(∀ x∈d,(L.getD x (fun _ _=>True)) (aR x) w)->gz L aR w d
 | [],_=>trivial
 | x :: r,h=>⟨h x (by simp),xh (fun y hy=>h y (by simp[hy]))⟩
variable {G : World -> Prop} {fr : (Nat -> Value) -> Act} {z : Nat} {fin : List Nat}
def kP (md:Region.Mode) (ops:Array Oper) (j:Nat):List Nat:=match ops[j]? with | none=>[] | some o=>(o.after.toList.filter (Region.binds md ·)).map (·.on)
def reach (md:Region.Mode) (ops:Array Oper):Nat->List Nat->List Nat
 | 0,l=>l
 | k+1,l=>reach md ops k (if l.contains k then l++kP md ops k else l)
theorem kN {j x:Nat}:x∈kP md ops j↔∃ o,ops[j]?=some o/\∃ e∈o.after,Region.binds md e=true/\e.on=x:=by
 unfold kP;cases ho:ops[j]? with
 | none=>simp
 | some o=>simp[and_assoc]
theorem nQ {aG:Array Bool} (nv:∀ j oj,ops[j]?=some oj->aG.getD j false=true->∀ e∈oj.after,Region.binds md e=true->aG.getD e.on false=true) :
  ∀ (k:Nat) (l:List Nat),(∀ x∈l,aG.getD x false=true)->∀ x∈reach md ops k l,aG.getD x false=true
 | 0,_,h=>h
 | k+1,l,h=>by
  unfold reach;refine nQ nv k _ ?_;split
  ·rename_i hc
   intro x hx;rcases List.mem_append.1 hx with q | q
   ·exact h x q
   obtain⟨o,ho,e,he,hb,rfl⟩:=kN.1 q;exact nv k o ho (h k (by simpa using hc)) e he hb
  exact h
end
end Go.Proofs.YtbkjljffnkdcjaaGreat
namespace Go.Proofs.YtbkjljffnkdcjaaGreat
open Go
section
variable {P : Program} {ops : Array Oper} {Q : Exit -> Act -> World -> Prop} {md : Region.Mode} {S : World -> Prop} {N : Nat -> Bool} {R : List Nat}
def xN (P:Program) (md:Region.Mode) (ops:Array Oper) (Q:Exit->Act->World->Prop) (S:World->Prop) (N:Nat->Bool):Nat->Array Bool->Act->World->Prop
 | 0,aG,a,w=>Region.ready md ops aG=[]/\Q .normal a w
 | fuel+1,aG,a,w =>
  (Region.ready md ops aG=[]->Q .normal a w) /\
  ∀ i∈Region.ready md ops aG,wpOp P ops Q i (fun a' w'=>(N i=true->S w')/\xN P md ops Q S N fuel (aG.setIfInBounds i true) a' w') a w
theorem xM:∀ (fuel:Nat) (aG:Array Bool) (a:Act) (w:World),xN P md ops Q S N fuel aG a w->wpAny P md ops Q fuel aG a w
 | 0,_,_,_,h=>h
 | fuel+1,_,_,_,h=>⟨h.1,fun i hi=>wpOp_mono (fun a' w' h'=>xM fuel _ a' w' h'.2) (h.2 i hi)⟩
def Down (md:Region.Mode) (ops:Array Oper) (aG:Array Bool):Prop:=∀ j oj,ops[j]?=some oj->aG.getD j false=true->∀ e∈oj.after,Region.binds md e=true->aG.getD e.on false=true
theorem oh {aG:Array Bool} {j:Nat} (hd:Down md ops aG) (hj:j∈Region.ready md ops aG):Down md ops (aG.setIfInBounds j true):=by
 intro k ok hk oW e he hb;obtain⟨-,oj,U8,cU⟩:=mem_ready.1 hj;by_cases M5:k=j
 ·subst M5
  rw[U8] at hk;cases hk;exact getD_set_true (cU e he hb)
 rw[getD_set_ne false (Ne.symm M5)] at oW;exact getD_set_true (hd k ok hk oW e he hb)
theorem MQ {aG:Array Bool} {i j:Nat} (hd:Down md ops aG) (hj:j∈Region.ready md ops aG) (hi:aG.getD i false=false):i ∉ reach md ops ops.size (kP md ops j):=by
 intro h;obtain⟨-,oj,U8,cU⟩:=mem_ready.1 hj;have:=nQ hd ops.size (kP md ops j) (fun x hx=>by
  obtain⟨o,ho,e,he,hb,rfl⟩:=kN.1 hx;rw[U8] at ho;cases ho;exact cU e he hb) i h
 rw[hi] at this;cases this
theorem Pe {aG:Array Bool} {i:Nat} (hr:i∈Region.ready md ops aG):aG.getD i false=false:=by
 have h0:=(mem_ready.1 hr).1;rcases Qj i aG.size with q | q
 ·simp[q] at h0 ⊢;exact h0
 simp[Qe q] at h0
theorem Ba {i:Nat} {oi:Oper} {v:Value} (hi:ops[i]?=some oi) (adJ:∀ (j:Nat) (o:Oper) cs b,ops[j]?=some o->o.op≠.select cs b)
  (hQ:∀ c a w,Q (.panic c) (a.put oi.dst v) w->Q (.panic c) a w)
  (hN:∀ j,j≠i->i ∉ reach md ops ops.size (kP md ops j)->N j=true) :
  ∀ (fuel:Nat) (aG:Array Bool) (a:Act) (w:World),Down md ops aG ->
   (∀ j oj,ops[j]?=some oj->j≠i->aG.getD j true=false->(∀ e∈oj.after,Region.binds md e=true->e.on≠i)->oi.apart ops oj=true) ->
   i∈Region.ready md ops aG->YieldsIf P ops S oi v a->S w ->
   xN P md ops Q S N fuel (aG.setIfInBounds i true) (a.put oi.dst v) w->xN P md ops Q S N (fuel+1) aG a w:=by
 intro fuel
 induction fuel with
 | zero =>
  intro aG a w _ _ hr hy hS H;refine⟨fun h=>(by rw[h] at hr;cases hr),fun j hj=>?_⟩;by_cases lp:j=i
  ·subst lp;exact hy.wpOp hi hS ⟨fun _=>hS,H⟩
  have:=ready_mono hj lp;rw[H.1] at this;cases this
 | succ fuel ih =>
  intro aG a w nv Er hr hy hS H;refine⟨fun h=>(by rw[h] at hr;cases hr),fun j hj=>?_⟩;by_cases lp:j=i
  ·subst lp;exact hy.wpOp hi hS ⟨fun _=>hS,H⟩
  obtain⟨afI,oj,U8,cU⟩:=mem_ready.1 hj;have ajL:∀ e∈oj.after,Region.binds md e=true->e.on≠i:=fun e he hb heq=>by
   have h1:=cU e he hb;have h0:=(mem_ready.1 hr).1;rw[heq] at h1;rcases Qj i aG.size with h' | h'
   ·simp[h'] at h0 h1;rw[h0] at h1;cases h1
   simp[Qe h'] at h1
  have hNj:=hN j lp (MQ nv hj (Pe hr));have h2:=wpOp_putIf U8 (Er j oj U8 lp afI ajL) (fun cs b=>adJ i oi cs b hi) (fun cs b=>adJ j oj cs b U8) hQ hy (H.2 j (ready_mono hj lp));refine wpOp_mono (fun a' w' h3=>⟨fun _=>h3.2.1 hNj,ih (aG.setIfInBounds j true) a' w' (oh nv hj) (fun k ok hk hki hun gM=>?_) (ready_mono hr (Ne.symm lp)) h3.1 (h3.2.1 hNj) ?_⟩) h2
  ·refine Er k ok hk hki ?_ gM
   by_cases Jk:j=k
   ·subst Jk;exact afI
   rw[getD_set_ne true Jk] at hun;exact hun
  rw[Qc _ _ lp];exact h3.2.2
def AD (md:Region.Mode) (ops:Array Oper) (R:List Nat) (j:Nat):Bool :=
 R.any fun i=>i != j&&!(reach md ops ops.size (kP md ops j)).contains i
theorem Pu {i j:Nat} (hi:i∈R) (bh:j≠i) (gM:i ∉ reach md ops ops.size (kP md ops j)):AD md ops R j=true:=by
 refine List.any_eq_true.2 ⟨i,hi,?_⟩;simp only[Qa,bne_iff_ne,ne_eq,Qg,List.contains_eq_mem,decide_eq_false_iff_not];exact⟨Ne.symm bh,gM⟩
def pick (ops:Array Oper) (order:List Nat):List (Nat × Oper):=order.filterMap fun i=>(ops[i]?).map fun o=>(i,o)
end
end Go.Proofs.YtbkjljffnkdcjaaGreat
namespace Go.Proofs.YtbkjljffnkdcjaaGreat
open Go
inductive Way where
 | done:Way
 | then_:Nat->Way->Way
 | fork:Nat->Nat->Way->Way->Way
def Way.size:Way->Nat
 | done=>0
 | then_ _ r=>r.size+1
 | fork _ _ r s=>max r.size s.size+1
def Way.line:List Nat->Way->Way
 | [],r=>r
 | i :: l,r=>.then_ i (Way.line l r)
section
variable {P : Program} {ops : Array Oper} {Q : Exit -> Act -> World -> Prop} {md : Region.Mode} {S : World -> Prop} {R : List Nat}
def Way.inside (n:Nat):Way->Bool
 | done=>true
 | then_ i r=>decide (i<n)&&r.inside n
 | fork i j r s=>decide (i<n)&&decide (j<n)&&r.inside n&&s.inside n
def mF (md:Region.Mode) (ops:Array Oper) (R:List Nat):Way->Array Bool->Bool
 | .done,aG=>(Region.ready md ops aG).isEmpty
 | .then_ i r,aG=>(if R.contains i then (Region.ready md ops aG).contains i&&Region.free md ops aG i else Region.ready md ops aG==[i])&&mF md ops R r (aG.setIfInBounds i true)
 | .fork i j r s,aG=>!R.contains i&&!R.contains j&&Region.ready md ops aG==[i,j]&&mF md ops R r (aG.setIfInBounds i true)&&mF md ops R s (aG.setIfInBounds j true)
def gS (P:Program) (md:Region.Mode) (ops:Array Oper) (Q:Exit->Act->World->Prop) (S:World->Prop) (R:List Nat):Way->Act->World->Prop
 | .done,a,w=>Q .normal a w
 | .then_ i r,a,w =>
  if R.contains i then ∃ o,ops[i]?=some o/\∃ v,YieldsIf P ops S o v a/\S w/\(∀ c a w,Q (.panic c) (a.put o.dst v) w->Q (.panic c) a w)/\gS P md ops Q S R r (a.put o.dst v) w
  else wpOp P ops Q i (fun a' w'=>(AD md ops R i=true->S w')/\gS P md ops Q S R r a' w') a w
 | .fork i j r s,a,w =>
  wpOp P ops Q i (fun a' w'=>(AD md ops R i=true->S w')/\gS P md ops Q S R r a' w') a w /\
  wpOp P ops Q j (fun a' w'=>(AD md ops R j=true->S w')/\gS P md ops Q S R s a' w') a w
theorem jO (hs:Region.noSelect ops=true):∀ (uG:Way) (aG:Array Bool) (a:Act) (w:World) (fuel:Nat),uG.size<=fuel->uG.inside ops.size=true->mF md ops R uG aG=true->Down md ops aG ->
  gS P md ops Q S R uG a w->xN P md ops Q S (AD md ops R) fuel aG a w
 | .done,_,_,_,0,_,_,hc,_,h=>⟨by simpa[mF] using hc,h⟩
 | .done,_,_,_,n+1,_,_,hc,_,h=>⟨fun _=>h,by rw[show Region.ready md ops _=[] by simpa[mF] using hc];simp⟩
 | .then_ i rest,aG,a,w,0,hl,_,_,_,_=>by simp[Way.size] at hl
 | .fork i j r s,aG,a,w,0,hl,_,_,_,_=>by simp[Way.size] at hl
 | .then_ i rest,aG,a,w,fuel+1,hl,aU,hc,nv,h=>by
  simp only[Way.size,Qd] at hl;simp only[Way.inside,Qa,decide_eq_true_eq] at aU;unfold mF at hc;rw[Qa] at hc;unfold gS at h;by_cases hR:R.contains i=true
  ·rw[if_pos hR] at h
   rw[if_pos hR,Qa] at hc;obtain⟨o,ho,v,hy,hS,hQ,h⟩:=h;exact Ba ho (Region.noSelect_spec hs) hQ (fun j bh gM=>Pu (by simpa using hR) bh gM) fuel aG a w nv (Region.free_spec ho hc.1.2) (by simpa using hc.1.1) hy hS
    (jO hs rest _ _ _ fuel hl aU.2 hc.2 (oh nv (by simpa using hc.1.1)) h)
  rw[if_neg hR] at h hc;have hr:Region.ready md ops aG=[i]:=by simpa using hc.1
  refine⟨fun h0=>(by rw[hr] at h0;cases h0),fun j hj=>?_⟩;rw[hr] at hj;obtain rfl:j=i:=by simpa using hj
  exact wpOp_mono (fun a' w' h'=>⟨h'.1,jO hs rest _ a' w' fuel hl aU.2 hc.2 (oh nv (by rw[hr];simp)) h'.2⟩) h
 | .fork i j r s,aG,a,w,fuel+1,hl,aU,hc,nv,h=>by
  simp only[Way.size,Qd] at hl;simp only[Way.inside,Qa,decide_eq_true_eq] at aU;unfold mF at hc;simp only[Qa,Qg,beq_iff_eq] at hc;obtain⟨⟨⟨⟨-,-⟩,hr⟩,cG⟩,bG⟩:=hc;unfold gS at h;refine⟨fun h0=>(by rw[hr] at h0;cases h0),fun k hk=>?_⟩;rw[hr] at hk;have hk':k=i\/k=j:=by simpa using hk
  rcases hk' with e | e
  ·subst e
   exact wpOp_mono (fun a' w' h'=>⟨h'.1,jO hs r _ a' w' fuel (by omega) aU.1.2 cG (oh nv (by rw[hr];simp)) h'.2⟩) h.1
  subst e;exact wpOp_mono (fun a' w' h'=>⟨h'.1,jO hs s _ a' w' fuel (by omega) aU.2 bG (oh nv (by rw[hr];simp)) h'.2⟩) h.2
theorem au {id:Nat} {a:Act} {w:World} (S:World->Prop) (R:List Nat) (uG:Way) (hm:P.follows .mixedOrders=true)
  (hc:(Region.noSelect ops&&decide (uG.size<=ops.size)&&uG.inside ops.size&&mF .any ops R uG (Array.replicate ops.size false))=true)
  (h:gS P .any ops Q S R uG a w.drew):(Code.region id ops true).wp P Q a w:=by
 simp only[Qa,decide_eq_true_eq] at hc;exact wp_region_any hm (xM _ _ _ _ (jO hc.1.1.1 uG _ a _ _ hc.1.1.2 hc.1.2 hc.2 (fun j _ _ hj=>by simp[Array.getElem?_replicate] at hj;split at hj <;> simp_all) h))
theorem aq {i:Nat} {rest:Way} {a:Act} {w:World} {o:Oper} {v:Value} (ho:ops[i]?=some o) (hR:R.contains i=true) (hw:Region.wanted o (yielded ops a.tmps)=true)
  (hQ:∀ c a w,Q (.panic c) (a.put o.dst v) w->Q (.panic c) a w) (hS:S w) (hv:∀ w,S w->(execOp a.eval o).run P w=.ok (.value v) w) (h:gS P md ops Q S R rest (a.put o.dst v) w):gS P md ops Q S R (.then_ i rest) a w:=by
 unfold gS;rw[if_pos hR];exact⟨o,ho,v,Or.inl ⟨hw,hv⟩,hS,hQ,h⟩
theorem ar {i:Nat} {rest:Way} {a:Act} {w:World} {o:Oper} (ho:ops[i]?=some o) (hR:R.contains i=true) (hw:Region.wanted o (yielded ops a.tmps)=false)
  (hQ:∀ c a w,Q (.panic c) (a.put o.dst undef) w->Q (.panic c) a w) (hS:S w) (h:gS P md ops Q S R rest (a.put o.dst undef) w):gS P md ops Q S R (.then_ i rest) a w:=by
 unfold gS;rw[if_pos hR];exact⟨o,ho,undef,Or.inr ⟨hw,rfl⟩,hS,hQ,h⟩
theorem ak {i:Nat} {rest:Way} {a:Act} {w:World} {o:Oper} (ho:ops[i]?=some o) (hR:R.contains i=false) (hw:Region.wanted o (yielded ops a.tmps)=false)
  (hS:S w) (h:gS P md ops Q S R rest (a.put o.dst undef) w):gS P md ops Q S R (.then_ i rest) a w:=by
 unfold gS;rw[if_neg (by simp only[hR];decide)];unfold wpOp;simp only[ho,hw];exact⟨fun _=>hS,h⟩
theorem aC {i:Nat} {rest:Way} {a:Act} {w:World} {o:Oper} (ho:ops[i]?=some o) (hR:R.contains i=false) (hw:Region.wanted o (yielded ops a.tmps)=true)
  (h:∀ K:Act->World->Prop,Shut (∀ a w,(AD md ops R i=true->S w)->gS P md ops Q S R rest a w->K a w)->Oper.wp P o a w K Q):gS P md ops Q S R (.then_ i rest) a w:=by
 unfold gS;rw[if_neg (by simp only[hR];decide)];unfold wpOp;simp only[ho,hw,if_true];exact Or.inl (h _ (fun a w hS hr=>⟨hS,hr⟩))
theorem aB {a:Act} {w:World} (h:Q .normal a w):gS P md ops Q S R .done a w:=h
end
end Go.Proofs.YtbkjljffnkdcjaaGreat
namespace Go.Proofs.YtbkjljffnkdcjaaGreat
open Go.RowKit Go.Maps
theorem wI (v:Value) (l:List Int) (n:Int) (w:World) (_hn:bn n) (h:aJ w v l) :
  Calls Tryz.prog 83 #[v,.int .i64 n] w fun e w'=>e=.returned (.bool (Plain.fI l n))/\ai [] w w':=by
 obtain⟨ao,cap,rfl,dS,hm,aO⟩:=h;have ir:=lh dS;have sD:=lh aO;clear dS aO
 go_enter Tryz.func83,Tryz.ntmps83
 go_wp2
 go_loopw [9] (fun c wr=>∃ k:Nat,k<=l.length/\c=.int .i64 k/\ai [] w wr/\Hid ((Qf k).all (Plain.iK l n)=true)) (fun c _=>l.length - (intOf c).toNat)
 case atStart=>exact⟨0,Qk _,rfl,ai.refl _ _,rfl⟩
 case round =>
  obtain⟨k,hk,rfl,hc,cU⟩:=hrel;have HC:=lh hc;by_cases aU:k<l.length
  ·obtain⟨b,off,rfl,pX⟩:=sD.out (by intro e;rw[e] at aU;simp at aU)
   have c0:=hc.c (pX k aU);have hz:=ir.out (l.getD k 0) (by simp[List.getD,aU]);have HF:=lh (fun h=>Plain.dY (p:=Plain.iK l n) aU h);have HS:=lh (Plain.eI (Plain.iK l n) k);cases k with
   | zero =>
    have HR:=lh (show Plain.iK l n 0=!(decide (l.getD 0 0<0) || decide (n<=l.getD 0 0)) by simp[Plain.iK]);rw[Qi] at c0;clear pX hc;generalize l.getD 0 0=z at *;by_cases h1:z<0
    ·go_wp2
     go_ret;exact⟨bB (by rw[HR.out] at HF;exact (HF.out (by simp[h1])).symm),HC.out⟩
    by_cases h2:n<=z
    ·go_wp2
     go_ret;exact⟨bB (by rw[HR.out] at HF;exact (HF.out (by simp[h2])).symm),HC.out⟩
    go_wp2
    go_roundw
    case rel=>exact⟨1,by omega,by go_num,HC.out,lh (by rw[HS.out,HR.out,cU.out];simp[h1,h2])⟩
    case measure=>simp[intOf];omega
   | succ m =>
    have c1:=hc.c (pX m (by omega));have HR:=lh (show Plain.iK l n (m+1)=!(decide (l.getD (m+1) 0<0) || decide (n<=l.getD (m+1) 0) || decide (l.getD (m+1) 0<=l.getD m 0)) by simp[Plain.iK]);have mh:(((m+1:Nat):Int) - 1)=(m:Int):=by omega
    have hy:=ir.out (l.getD m 0) (by simp[List.getD,show m<l.length by omega]);clear pX hc;generalize l.getD (m+1) 0=z at *;generalize l.getD m 0=y at *;by_cases h1:z<0
    ·go_wp2
     go_ret;exact⟨bB (by rw[HR.out] at HF;exact (HF.out (by simp[h1])).symm),HC.out⟩
    by_cases h2:n<=z
    ·go_wp2
     go_ret;exact⟨bB (by rw[HR.out] at HF;exact (HF.out (by simp[h2])).symm),HC.out⟩
    by_cases h3:z<=y
    ·go_wp2
     go_ret;exact⟨bB (by rw[HR.out] at HF;exact (HF.out (by simp[h3])).symm),HC.out⟩
    go_wp2
    go_roundw
    case rel=>exact⟨m+2,by omega,by go_num,HC.out,lh (by rw[HS.out,HR.out,cU.out];simp[h1,h2,h3])⟩
    case measure=>simp[intOf];omega
  have e:k=l.length:=by omega
  subst e;go_wp2;go_ret;exact⟨bB cU.out.symm,HC.out⟩
theorem wE (v:Value) (g:Plain.Gr) (w:World) (h:dU w v g) :
  Calls Tryz.prog 82 #[v] w fun e w'=>e=.returned (.int .i64 g.err)/\ai [] w w':=by
 obtain⟨eo,cap,rfl,hn,hm,dS,aO⟩:=h;have ir:=lh dS;have sD:=lh aO;have HN:=lh hn;have KT:-9223372036854775808<=g.n:=by have h:=hn;unfold bn at h;simp only[Lit.wf,Qa,decide_eq_true_eq] at h;exact h.1
 clear dS aO
 go_enter Tryz.func82,Tryz.ntmps82
 have b8:=lh ((ai.refl [] w).alloc (.cells #[.int .i64 g.n,.slice eo g.e.length cap] 24));by_cases h1:g.n<0
 ·have HE:=lh (show g.err=3 by unfold Plain.Gr.err;rw[if_pos h1])
  go_wp2;go_ret;exact⟨bS HE.out.symm,b8.out⟩
 by_cases h2:1024<g.n
 ·have HE:=lh (show g.err=2 by unfold Plain.Gr.err;rw[if_neg h1,if_pos (Or.inl h2)])
  go_wp2;go_ret;exact⟨bS HE.out.symm,b8.out⟩
 have gB:(1024:Int) - g.n<=1024:=by omega
 by_cases h3:1024 - g.n<(g.e.length:Int)
 ·have HE:=lh (show g.err=2 by unfold Plain.Gr.err;rw[if_neg h1,if_pos (Or.inr h3)])
  go_wp2;go_ret;exact⟨bS HE.out.symm,b8.out⟩
 have BG:=lh (show g.err=if (Qf g.e.length).all g.fe then 0 else 3 by unfold Plain.Gr.err;rw[if_neg h1,if_neg (by omega)]);have oY:(w.alloc (.cells #[.int .i64 g.n,.slice eo g.e.length cap] 24)).cell? ⟨w.heap.size,0,none⟩=some (.int .i64 g.n):=by rw[cell_of_row _ _ 0 _ _ _ (heap_alloc_new w _)];rfl
 have GS:=lh oY;clear oY;go_wp2;generalize (w.alloc (.cells #[.int .i64 g.n,.slice eo g.e.length cap] 24))=w1 at *;generalize w.heap.size=gb at *
 go_loopw [23] (fun c wr=>∃ k:Nat,k<=g.e.length/\c=.int .i64 k/\ai [] w1 wr/\Hid ((Qf k).all g.fe=true)) (fun c _=>g.e.length - (intOf c).toNat)
 case atStart=>exact⟨0,Qk _,rfl,ai.refl _ _,rfl⟩
 case round =>
  obtain⟨k,hk,rfl,hc,cU⟩:=hrel;have HC:=lh hc;have cn:=fun o=>dC (hc.c GS.out) o;by_cases aU:k<g.e.length
  ·obtain⟨b,off,rfl,gy,cG⟩:=sD.out k aU
   have c0:=hc.c (b8.out.c gy);have c1:=hc.c (b8.out.c cG);obtain⟨z1,z2⟩:=ir.out k aU;have HF:=lh (fun h=>Plain.dY (p:=g.fe) aU h);have HS:=lh (Plain.eI g.fe k);have HR:=lh (show g.fe k=!(decide ((g.ends k).1<0) || decide (g.n<=(g.ends k).1) || decide ((g.ends k).2<0) || decide (g.n<=(g.ends k).2)) from rfl);clear gy cG hc;generalize (g.ends k).1=x at *;generalize (g.ends k).2=y at *;by_cases p1:x<0
   ·have HE:=lh (BG.out.trans (if_neg (by rw[HF.out (by rw[HR.out];simp[p1])];decide)))
    go_wp2;go_ret;exact⟨bS HE.out.symm,b8.out.t (HC.out.alloc _)⟩
   skip
   by_cases p2:g.n<=x
   ·have HE:=lh (BG.out.trans (if_neg (by rw[HF.out (by rw[HR.out];simp[p2])];decide)))
    go_wp2;go_ret;exact⟨bS HE.out.symm,b8.out.t (HC.out.alloc _)⟩
   skip
   by_cases p3:y<0
   ·have HE:=lh (BG.out.trans (if_neg (by rw[HF.out (by rw[HR.out];simp[p3])];decide)))
    go_wp2;go_ret;exact⟨bS HE.out.symm,b8.out.t (HC.out.alloc _)⟩
   skip
   by_cases p4:g.n<=y
   ·have HE:=lh (BG.out.trans (if_neg (by rw[HF.out (by rw[HR.out];simp[p4])];decide)))
    go_wp2;go_ret;exact⟨bS HE.out.symm,b8.out.t (HC.out.alloc _)⟩
   skip
   have HK:=lh (show (Qf (k+1)).all g.fe=true by rw[HS.out,HR.out,cU.out];simp[p1,p2,p3,p4]);go_wp2
   go_roundw
   case rel=>exact⟨k+1,by omega,by go_num,HC.out.alloc _,HK⟩
   case measure=>simp[intOf];omega
  have e:k=g.e.length:=by omega
  subst e;have HE:=lh (BG.out.trans (if_pos cU.out));go_wp2;go_ret;exact⟨bS HE.out.symm,b8.out.t HC.out⟩
end Go.Proofs.YtbkjljffnkdcjaaGreat
namespace Go.Proofs
open Go.Shelf
def Tryz.Em:Go.Shelf.Ren:=⟨fun | 189=>110 | 125=>156 | 257=>158 | 128=>190 | 129=>191 | 294=>192 | 295=>193 | 296=>194 | 297=>195 | 298=>196 | 299=>197 | 216=>175 | 300=>198 | 301=>199 | 328=>208 | 329=>204 | 330=>205 | 331=>209 | 332=>210 | 215=>157 | 343=>214 | n=>n,fun | 28=>25 | 3=>3 | 46=>182 | 0=>0 | 51=>203 | 53=>205 | 4=>4 | 183=>197 | 182=>196 | 131=>86 | 5=>5 | 9=>9 | 218=>213 | 222=>217 | 228=>221 | 229=>222 | n=>n,fun | n=>n⟩
theorem Tryz.Jc:Go.Proofs.Lays.n189 Tryz.prog Tryz.Em:={
 mixed:=by kernel_rfl
 f125:=Tryz.func156.trans (congrArg some (by kernel_rfl))
 f128:=Tryz.func190.trans (congrArg some (by kernel_rfl))
 f129:=Tryz.func191.trans (congrArg some (by kernel_rfl))
 f189:=Tryz.func110.trans (congrArg some (by kernel_rfl))
 f215:=Tryz.func157.trans (congrArg some (by kernel_rfl))
 f216:=Tryz.func175.trans (congrArg some (by kernel_rfl))
 f257:=Tryz.func158.trans (congrArg some (by kernel_rfl))
 f294:=Tryz.func192.trans (congrArg some (by kernel_rfl))
 f295:=Tryz.func193.trans (congrArg some (by kernel_rfl))
 f296:=Tryz.func194.trans (congrArg some (by kernel_rfl))
 f297:=Tryz.func195.trans (congrArg some (by kernel_rfl))
 f298:=Tryz.func196.trans (congrArg some (by kernel_rfl))
 f299:=Tryz.func197.trans (congrArg some (by kernel_rfl))
 f300:=Tryz.func198.trans (congrArg some (by kernel_rfl))
 f301:=Tryz.func199.trans (congrArg some (by kernel_rfl))
 f328:=Tryz.func208.trans (congrArg some (by kernel_rfl))
 f329:=Tryz.func204.trans (congrArg some (by kernel_rfl))
 f330:=Tryz.func205.trans (congrArg some (by kernel_rfl))
 f331:=Tryz.func209.trans (congrArg some (by kernel_rfl))
 f332:=Tryz.func210.trans (congrArg some (by kernel_rfl))
 f343:=Tryz.func214.trans (congrArg some (by kernel_rfl))
 t0:=Tryz.underlying0
 a0:=Tryz.isAgg0
 z0:=Tryz.sizeOf0
 v0:=Tryz.zeroValue0
 t3:=Tryz.underlying3
 a3:=Tryz.isAgg3
 z3:=Tryz.sizeOf3
 v3:=Tryz.zeroValue3
 t4:=Tryz.underlying4
 a4:=Tryz.isAgg4
 z4:=Tryz.sizeOf4
 v4:=Tryz.zeroValue4
 t5:=Tryz.underlying5
 a5:=Tryz.isAgg5
 z5:=Tryz.sizeOf5
 v5:=Tryz.zeroValue5
 t9:=Tryz.underlying9
 a9:=Tryz.isAgg9
 z9:=Tryz.sizeOf9
 v9:=Tryz.zeroValue9
 t28:=Tryz.underlying25
 a28:=Tryz.isAgg25
 z28:=Tryz.sizeOf25
 v28:=Tryz.zeroValue25
 t46:=Tryz.underlying182
 a46:=Tryz.isAgg182
 z46:=Tryz.sizeOf182
 v46:=Tryz.zeroValue182
 t51:=Tryz.underlying203
 a51:=Tryz.isAgg203
 z51:=Tryz.sizeOf203
 v51:=Tryz.zeroValue203
 t53:=Tryz.underlying205
 a53:=Tryz.isAgg205
 z53:=Tryz.sizeOf205
 v53:=Tryz.zeroValue205
 t131:=Tryz.underlying86
 a131:=Tryz.isAgg86
 z131:=Tryz.sizeOf86
 v131:=Tryz.zeroValue86
 t182:=Tryz.underlying196
 a182:=Tryz.isAgg196
 z182:=Tryz.sizeOf196
 v182:=Tryz.zeroValue196
 t183:=Tryz.underlying197
 a183:=Tryz.isAgg197
 z183:=Tryz.sizeOf197
 v183:=Tryz.zeroValue197
 t218:=Tryz.underlying213
 a218:=Tryz.isAgg213
 z218:=Tryz.sizeOf213
 v218:=Tryz.zeroValue213
 t222:=Tryz.underlying217
 a222:=Tryz.isAgg217
 z222:=Tryz.sizeOf217
 v222:=Tryz.zeroValue217
 t228:=Tryz.underlying221
 a228:=Tryz.isAgg221
 z228:=Tryz.sizeOf221
 v228:=Tryz.zeroValue221
 t229:=Tryz.underlying222
 a229:=Tryz.isAgg222
 z229:=Tryz.sizeOf222
 v229:=Tryz.zeroValue222 }
open Go.Sort Go.RowKit in
theorem Tryz.slices_Sort_int (vk off cap:Nat) (zs:List Int) (w:World) (hH:Holds (Qb .i64) w vk off zs.toArray) (hblk:vk<w.heap.size) (di:zs.length<4611686018427387904) :
  Calls Tryz.prog 110 #[.slice (some ⟨vk,off,none⟩) zs.length cap] w fun e w' =>
   e=.returned (.tuple #[])/\∃ n os,w'=grow (putRow (Qb .i64) (Sort.ahead w n) vk off (zs.mergeSort fun x y=>decide (x<=y)).toArray) os:=Any.slices_Sort_int Tryz.Jc vk off cap zs w hH hblk di
def Tryz.Ed:Go.Shelf.Ren:=⟨fun | 108=>124 | n=>n,fun | 28=>25 | 3=>3 | 0=>0 | 4=>4 | n=>n,fun | n=>n⟩
theorem Tryz.JO:Go.Proofs.Lays.n108 Tryz.prog Tryz.Ed:={
 mixed:=by kernel_rfl
 f108:=Tryz.func124.trans (congrArg some (by kernel_rfl))
 t0:=Tryz.underlying0
 a0:=Tryz.isAgg0
 z0:=Tryz.sizeOf0
 v0:=Tryz.zeroValue0
 t3:=Tryz.underlying3
 a3:=Tryz.isAgg3
 z3:=Tryz.sizeOf3
 v3:=Tryz.zeroValue3
 t4:=Tryz.underlying4
 a4:=Tryz.isAgg4
 z4:=Tryz.sizeOf4
 v4:=Tryz.zeroValue4
 t28:=Tryz.underlying25
 a28:=Tryz.isAgg25
 z28:=Tryz.sizeOf25
 v28:=Tryz.zeroValue25 }
open Go.Lib in
theorem Tryz.slices_Index_int (b off n c:Nat) (zs:List Int) (x:Int) (w:World) (hz:n<=zs.length) (Bo:n<=9223372036854775807) (hc:∀ j,j<zs.length->w.cell? ⟨b,off+j,none⟩=some (.int .i64 (zs.getD j 0))) :
  Calls Tryz.prog 124 #[.slice (some ⟨b,off,none⟩) n c,.int .i64 x] w fun e w'=>e=.returned (.int .i64 (Lib.idxOf (zs.take n) x))/\w'=w:=Any.slices_Index_int Tryz.JO b off n c zs x w hz Bo hc
open Go.Lib in
theorem Tryz.slices_Index_int_empty (a:Option Addr) (c:Nat) (x:Int) (w:World) :
  Calls Tryz.prog 124 #[.slice a 0 c,.int .i64 x] w fun e w'=>e=.returned (.int .i64 (Lib.idxOf [] x))/\w'=w:=Any.slices_Index_int_empty Tryz.JO a c x w
def Tryz.Ez:Go.Shelf.Ren:=⟨fun | 107=>166 | 108=>124 | n=>n,fun | 28=>25 | 3=>3 | 4=>4 | 0=>0 | n=>n,fun | n=>n⟩
theorem Tryz.JC:Go.Proofs.Lays.n107 Tryz.prog Tryz.Ez:={
 mixed:=by kernel_rfl
 f107:=Tryz.func166.trans (congrArg some (by kernel_rfl))
 f108:=Tryz.func124.trans (congrArg some (by kernel_rfl))
 t0:=Tryz.underlying0
 a0:=Tryz.isAgg0
 z0:=Tryz.sizeOf0
 v0:=Tryz.zeroValue0
 t3:=Tryz.underlying3
 a3:=Tryz.isAgg3
 z3:=Tryz.sizeOf3
 v3:=Tryz.zeroValue3
 t4:=Tryz.underlying4
 a4:=Tryz.isAgg4
 z4:=Tryz.sizeOf4
 v4:=Tryz.zeroValue4
 t28:=Tryz.underlying25
 a28:=Tryz.isAgg25
 z28:=Tryz.sizeOf25
 v28:=Tryz.zeroValue25 }
open Go.Lib in
theorem Tryz.slices_Contains_int (b off n c:Nat) (zs:List Int) (x:Int) (w:World) (hz:n<=zs.length) (Bo:n<=9223372036854775807) (hc:∀ j,j<zs.length->w.cell? ⟨b,off+j,none⟩=some (.int .i64 (zs.getD j 0))) :
  Calls Tryz.prog 166 #[.slice (some ⟨b,off,none⟩) n c,.int .i64 x] w fun e w'=>e=.returned (.bool ((zs.take n).contains x))/\w'=w:=Any.slices_Contains_int Tryz.JC b off n c zs x w hz Bo hc
open Go.Lib in
theorem Tryz.slices_Contains_int_empty (a:Option Addr) (c:Nat) (x:Int) (w:World) :
  Calls Tryz.prog 166 #[.slice a 0 c,.int .i64 x] w fun e w'=>e=.returned (.bool false)/\w'=w:=Any.slices_Contains_int_empty Tryz.JC a c x w
def Tryz.Ds:Go.Shelf.Ren:=⟨fun | 112=>201 | n=>n,fun | 28=>25 | 3=>3 | 4=>4 | 0=>0 | n=>n,fun | n=>n⟩
theorem Tryz.Ka:Go.Proofs.Lays.n112 Tryz.prog Tryz.Ds:={
 mixed:=by kernel_rfl
 f112:=Tryz.func201.trans (congrArg some (by kernel_rfl))
 t0:=Tryz.underlying0
 a0:=Tryz.isAgg0
 z0:=Tryz.sizeOf0
 v0:=Tryz.zeroValue0
 t3:=Tryz.underlying3
 a3:=Tryz.isAgg3
 z3:=Tryz.sizeOf3
 v3:=Tryz.zeroValue3
 t4:=Tryz.underlying4
 a4:=Tryz.isAgg4
 z4:=Tryz.sizeOf4
 v4:=Tryz.zeroValue4
 t28:=Tryz.underlying25
 a28:=Tryz.isAgg25
 z28:=Tryz.sizeOf25
 v28:=Tryz.zeroValue25 }
open Go.RowKit Go.Lib Go.Sort in
theorem Tryz.slices_Reverse_int (vk off cap:Nat) (zs:List Int) (w:World) (hH:Holds (Qb .i64) w vk off zs.toArray) (di:zs.length<=9223372036854775807) :
  Calls Tryz.prog 201 #[.slice (some ⟨vk,off,none⟩) zs.length cap] w fun e w'=>e=.returned (.tuple #[])/\∃ n,w'=putRow (Qb .i64) (Sort.ahead w n) vk off zs.reverse.toArray:=Any.slices_Reverse_int Tryz.Ka vk off cap zs w hH di
open Go.RowKit Go.Lib Go.Sort in
theorem Tryz.slices_Reverse_int_empty (a:Option Addr) (cap:Nat) (w:World) :
  Calls Tryz.prog 201 #[.slice a 0 cap] w fun e w'=>e=.returned (.tuple #[])/\w'=w:=Any.slices_Reverse_int_empty Tryz.Ka a cap w
def Tryz.Ff:Go.Shelf.Ren:=⟨fun | 111=>142 | n=>n,fun | 28=>25 | 3=>3 | 4=>4 | 0=>0 | n=>n,fun | n=>n⟩
theorem Tryz.BI:Go.Proofs.Lays.n111 Tryz.prog Tryz.Ff:={
 mixed:=by kernel_rfl
 f111:=Tryz.func142.trans (congrArg some (by kernel_rfl))
 t0:=Tryz.underlying0
 a0:=Tryz.isAgg0
 z0:=Tryz.sizeOf0
 v0:=Tryz.zeroValue0
 t3:=Tryz.underlying3
 a3:=Tryz.isAgg3
 z3:=Tryz.sizeOf3
 v3:=Tryz.zeroValue3
 t4:=Tryz.underlying4
 a4:=Tryz.isAgg4
 z4:=Tryz.sizeOf4
 v4:=Tryz.zeroValue4
 t28:=Tryz.underlying25
 a28:=Tryz.isAgg25
 z28:=Tryz.sizeOf25
 v28:=Tryz.zeroValue25 }
open Go.RowKit Go.Lib in
theorem Tryz.slices_Equal_int (b1 o1 n c b2 o2 m d:Nat) (xs ys:List Int) (w:World) (hx:n<=xs.length) (hy:m<=ys.length) (Bo:n<=9223372036854775807) (Rs:m<=9223372036854775807) (cG:∀ j,j<xs.length->w.cell? ⟨b1,o1+j,none⟩=some (.int .i64 (xs.getD j 0))) (bG:∀ j,j<ys.length->w.cell? ⟨b2,o2+j,none⟩=some (.int .i64 (ys.getD j 0))) :
  Calls Tryz.prog 142 #[.slice (some ⟨b1,o1,none⟩) n c,.slice (some ⟨b2,o2,none⟩) m d] w fun e w'=>e=.returned (.bool (xs.take n==ys.take m))/\∃ q,w'=w.drewN q:=Any.slices_Equal_int Tryz.BI b1 o1 n c b2 o2 m d xs ys w hx hy Bo Rs cG bG
open Go.RowKit Go.Lib in
theorem Tryz.slices_Equal_int_empty (a1 a2:Option Addr) (c m d:Nat) (w:World) (Rs:m<=9223372036854775807) :
  Calls Tryz.prog 142 #[.slice a1 0 c,.slice a2 m d] w fun e w'=>e=.returned (.bool (decide (m=0)))/\w'=w:=Any.slices_Equal_int_empty Tryz.BI a1 a2 c m d w Rs
def Tryz.zq:Go.Shelf.Ren:=⟨fun | 15=>107 | n=>n,fun | 22=>25 | 3=>3 | 4=>4 | n=>n,fun | n=>n⟩
theorem Tryz.sU:Go.Proofs.Lays2.n15 Tryz.prog Tryz.zq:={
 mixed:=by kernel_rfl
 f15:=Tryz.func107.trans (congrArg some (by kernel_rfl))
 t3:=Tryz.underlying3
 a3:=Tryz.isAgg3
 z3:=Tryz.sizeOf3
 v3:=Tryz.zeroValue3
 t4:=Tryz.underlying4
 a4:=Tryz.isAgg4
 z4:=Tryz.sizeOf4
 v4:=Tryz.zeroValue4
 t22:=Tryz.underlying25
 a22:=Tryz.isAgg25
 z22:=Tryz.sizeOf25
 v22:=Tryz.zeroValue25
 i3:=by kernel_rfl }
open Go.RowKit Go.Lib in
theorem Tryz.slices_Clone_int (b off n c:Nat) (zs:List Int) (w:World) (hz:n<=zs.length) (Bo:n*8<=140737488355328) (hc:∀ j,j<zs.length->w.cell? ⟨b,off+j,none⟩=some (.int .i64 (zs.getD j 0))) :
  Calls Tryz.prog 107 #[.slice (some ⟨b,off,none⟩) n c] w fun e w'=>∃ v',e=.returned v'/\w'.ownsRow w.heap.size 3 1 v' n ((zs.take n).map (Qb .i64))/\v'≠.slice none 0 0/\Below w.heap.size w w':=Any.slices_Clone_int Tryz.sU b off n c zs w hz Bo hc
open Go.RowKit Go.Lib in
theorem Tryz.slices_Clone_int_nil (n c:Nat) (w:World) :
  Calls Tryz.prog 107 #[.slice none n c] w fun e w'=>e=.returned (.slice none 0 0)/\w'=w:=Any.slices_Clone_int_nil Tryz.sU n c w
open Go.RowKit Go.Lib in
theorem Tryz.slices_Clone_int_zero (a:Addr) (c:Nat) (w:World) :
  Calls Tryz.prog 107 #[.slice (some a) 0 c] w fun e w'=>∃ v',e=.returned v'/\w'.ownsRow w.heap.size 3 1 v' 0 []/\v'≠.slice none 0 0/\Below w.heap.size w w':=Any.slices_Clone_int_zero Tryz.sU a c w
def Tryz.yZ:Go.Shelf.Ren:=⟨fun | 20=>111 | n=>n,fun | 22=>25 | 3=>3 | 4=>4 | 0=>0 | n=>n,fun | n=>n⟩
theorem Tryz.AU:Go.Proofs.Lays2.n20 Tryz.prog Tryz.yZ:={
 mixed:=by kernel_rfl
 f20:=Tryz.func111.trans (congrArg some (by kernel_rfl))
 t0:=Tryz.underlying0
 a0:=Tryz.isAgg0
 z0:=Tryz.sizeOf0
 v0:=Tryz.zeroValue0
 t3:=Tryz.underlying3
 a3:=Tryz.isAgg3
 z3:=Tryz.sizeOf3
 v3:=Tryz.zeroValue3
 t4:=Tryz.underlying4
 a4:=Tryz.isAgg4
 z4:=Tryz.sizeOf4
 v4:=Tryz.zeroValue4
 t22:=Tryz.underlying25
 a22:=Tryz.isAgg25
 z22:=Tryz.sizeOf25
 v22:=Tryz.zeroValue25
 i3:=by kernel_rfl }
open Go.RowKit Go.Lib Go.Sort in
theorem Tryz.slices_Compact_int (vk off cap:Nat) (zs:List Int) (w:World) (hH:Holds (Qb .i64) w vk off zs.toArray) (di:zs.length<=9223372036854775807) (j5:zs.length<=cap) :
  Calls Tryz.prog 111 #[.slice (some ⟨vk,off,none⟩) zs.length cap] w fun e w'=>e=.returned (.slice (some ⟨vk,off,none⟩) (Lib.compact zs).length cap)/\∃ q,w'=putRow (Qb .i64) (Sort.ahead w q) vk off (Lib.compact zs++Qh (zs.length - (Lib.compact zs).length) 0).toArray:=Any.slices_Compact_int Tryz.AU vk off cap zs w hH di j5
open Go.RowKit Go.Lib Go.Sort in
theorem Tryz.slices_Compact_int_empty (a:Option Addr) (cap:Nat) (w:World) :
  Calls Tryz.prog 111 #[.slice a 0 cap] w fun e w'=>e=.returned (.slice a 0 cap)/\w'=w:=Any.slices_Compact_int_empty Tryz.AU a cap w
def Tryz.yW:Go.Shelf.Ren:=⟨fun | 25=>143 | 31=>175 | 32=>176 | 37=>157 | n=>n,fun | 22=>25 | 3=>3 | 4=>4 | 40=>182 | 0=>0 | n=>n,fun | n=>n⟩
theorem Tryz.An:Go.Proofs.Lays2.n25 Tryz.prog Tryz.yW:={
 mixed:=by kernel_rfl
 f25:=Tryz.func143.trans (congrArg some (by kernel_rfl))
 f31:=Tryz.func175.trans (congrArg some (by kernel_rfl))
 f32:=Tryz.func176.trans (congrArg some (by kernel_rfl))
 f37:=Tryz.func157.trans (congrArg some (by kernel_rfl))
 t0:=Tryz.underlying0
 a0:=Tryz.isAgg0
 z0:=Tryz.sizeOf0
 v0:=Tryz.zeroValue0
 t3:=Tryz.underlying3
 a3:=Tryz.isAgg3
 z3:=Tryz.sizeOf3
 v3:=Tryz.zeroValue3
 t4:=Tryz.underlying4
 a4:=Tryz.isAgg4
 z4:=Tryz.sizeOf4
 v4:=Tryz.zeroValue4
 t22:=Tryz.underlying25
 a22:=Tryz.isAgg25
 z22:=Tryz.sizeOf25
 v22:=Tryz.zeroValue25
 t40:=Tryz.underlying182
 a40:=Tryz.isAgg182
 z40:=Tryz.sizeOf182
 v40:=Tryz.zeroValue182 }
open Go.RowKit Go.Lib in
theorem Tryz.slices_BinarySearch_int (b off n c:Nat) (zs:List Int) (x:Int) (w:World) (hz:n<=zs.length) (Bo:n<4611686018427387904) (hc:∀ j,j<zs.length->w.cell? ⟨b,off+j,none⟩=some (.int .i64 (zs.getD j 0))) (hs:(zs.take n).Pairwise (·<=·)) :
  Calls Tryz.prog 143 #[.slice (some ⟨b,off,none⟩) n c,.int .i64 x] w fun e w'=>e=.returned (.tuple #[.int .i64 ((zs.take n).countP (·<x):Nat),.bool ((zs.take n).contains x)])/\∃ q,w'=w.drewN q:=Any.slices_BinarySearch_int Tryz.An b off n c zs x w hz Bo hc hs
def Tryz.y6:Go.Shelf.Ren:=⟨fun | 23=>125 | n=>n,fun | 22=>25 | 3=>3 | 4=>4 | 0=>0 | n=>n,fun | n=>n⟩
theorem Tryz.LA:Go.Proofs.Lays2.n23 Tryz.prog Tryz.y6:={
 mixed:=by kernel_rfl
 f23:=Tryz.func125.trans (congrArg some (by kernel_rfl))
 t0:=Tryz.underlying0
 a0:=Tryz.isAgg0
 z0:=Tryz.sizeOf0
 v0:=Tryz.zeroValue0
 t3:=Tryz.underlying3
 a3:=Tryz.isAgg3
 z3:=Tryz.sizeOf3
 v3:=Tryz.zeroValue3
 t4:=Tryz.underlying4
 a4:=Tryz.isAgg4
 z4:=Tryz.sizeOf4
 v4:=Tryz.zeroValue4
 t22:=Tryz.underlying25
 a22:=Tryz.isAgg25
 z22:=Tryz.sizeOf25
 v22:=Tryz.zeroValue25
 i3:=by kernel_rfl }
open Go.RowKit Go.Lib Go.Sort in
theorem Tryz.slices_Delete_int (vk off cap i j:Nat) (zs:List Int) (w:World) (hH:Holds (Qb .i64) w vk off zs.toArray) (j5:zs.length<=cap) (hm:cap<=9223372036854775807) (MR:i<=j) (hj:j<=zs.length) :
  Calls Tryz.prog 125 #[.slice (some ⟨vk,off,none⟩) zs.length cap,.int .i64 i,.int .i64 j] w fun e w'=>e=.returned (.slice (some ⟨vk,off,none⟩) (zs.length - (j - i)) cap)/\∃ q,w'=putRow (Qb .i64) (Sort.ahead w q) vk off (zs.take i++zs.drop j++Qh (j - i) 0).toArray:=Any.slices_Delete_int Tryz.LA vk off cap i j zs w hH j5 hm MR hj
open Go.RowKit Go.Sort in
theorem Tryz.slices_Sort_int_none (p:Option Addr) (cap:Nat) (w:World) :
  Calls Tryz.prog 110 #[.slice p 0 cap] w fun e w'=>e=.returned (.tuple #[])/\w'=w:=Any.slices_Sort_int_none Tryz.Jc p cap w
open Go.RowKit Go.Lib in
theorem Tryz.slices_BinarySearch_int_empty (a:Option Addr) (c:Nat) (x:Int) (w:World) :
  Calls Tryz.prog 143 #[.slice a 0 c,.int .i64 x] w fun e w'=>e=.returned (.tuple #[.int .i64 0,.bool false])/\w'=w:=Any.slices_BinarySearch_int_empty Tryz.An a c x w
open Go.RowKit Go.Lib in
theorem Tryz.slices_Equal_int_lens (a1 a2:Option Addr) (n c m d:Nat) (w:World) (hnm:n≠m) :
  Calls Tryz.prog 142 #[.slice a1 n c,.slice a2 m d] w fun e w'=>e=.returned (.bool false)/\w'=w:=Any.slices_Equal_int_lens Tryz.BI a1 a2 n c m d w hnm
end Go.Proofs
