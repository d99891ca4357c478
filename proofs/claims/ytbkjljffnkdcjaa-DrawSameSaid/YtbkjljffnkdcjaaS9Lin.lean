/- A region that draws its order, whose operations read, or make what then stays: walked one operation at a time, each from whatever the others have left. No program here. -/
import Derived.Deep.RegionHeld3
import Derived.Test.YtbkjljffnkdcjaaS9Euler
import Derived.Shelf.Small.Bits
import Derived.Shelf.Small.Wraps
import Derived.Shelf.Strconv.Itoa0
import Derived.Shelf.Sort.Plain
import Derived.Shelf.Slices.Turned
import Derived.Shelf.Slices.Reverse
import Derived.Shelf.Slices.Equal
import Derived.Ground.Names2Prog
import Derived.Shelf.Slices.Clone
import Derived.Shelf.Slices.CompactI
import Derived.Shelf.Slices.SearchI
import Derived.Shelf.Slices.Delete
import Derived.Shelf.Slices.Cells
import Derived.Shelf.Slices.In.SortNone
import Derived.Shelf.Slices.Empties
import Derived.Shelf.Slices.Empties2
import Derived.Ground.SlgnProg
import Derived.Shelf.SlicesE.Clone
import Derived.Test.YtbkjljffnkdcjaaProg
namespace Go.Proofs.Ytbkjljffnkdcjaa
open Go
section
variable {P : Program} {ops : Array Oper} {Q : Exit → Act → World → Prop} {md : Region.Mode}
def fillL (vals:Nat→Value):Nat→List Oper→Act→Act
 | _,[],a=>a
 | i,o :: r,a=>fillL vals (i+1) r (a.put o.dst (vals i))
theorem put_comm (a:Act) {d e:Option Nat} (u v:Value) (h:∀ x,d=some x→e≠some x):(a.put d u).put e v=(a.put e v).put d u:=by
 cases d with
 | none=>rfl
 | some x =>
  cases e with
  | none=>rfl
  | some y =>
   have:x≠y:=fun q=>h x rfl (by rw[q])
   simp only[Act.put,Array.setIfInBounds_comm _ _ this]
theorem put_put (a:Act) (d:Option Nat) (u v:Value):(a.put d u).put d v=a.put d v:=by
 cases d with
 | none=>rfl
 | some x=>simp only[Act.put,Array.setIfInBounds_setIfInBounds]
theorem fillL_put (vals:Nat→Value) (d:Option Nat) (v:Value):∀ (l:List Oper) (i:Nat) (a:Act),(∀ o∈l,∀ x,d=some x→o.dst≠some x)→fillL vals i l (a.put d v)=(fillL vals i l a).put d v
 | [],_,_,_=>rfl
 | o :: r,i,a,h=>by
  simp only[fillL]
  rw[put_comm a v (vals i) (h o (by simp)),fillL_put vals d v r (i+1) _ (fun o ho=>h o (by simp[ho]))]
def upd (vals:Nat→Value) (i:Nat) (v:Value):Nat→Value:=fun j=>if j=i then v else vals j
theorem fillL_above (vals:Nat→Value) (k:Nat) (v:Value):∀ (l:List Oper) (i:Nat) (a:Act),k<i→fillL (upd vals k v) i l a=fillL vals i l a
 | [],_,_,_=>rfl
 | o :: r,i,a,h=>by
  simp only[fillL]
  rw[fillL_above vals k v r (i+1) _ (by omega),show upd vals k v i=vals i from if_neg (by omega)]
def apart:List Oper→Bool
 | []=>true
 | o :: r=>(match o.dst with | none=>true | some x=>r.all fun p=>p.dst != some x)&&apart r
theorem apart_spec {o:Oper} {r:List Oper} (h:apart (o :: r)=true):(∀ p∈r,∀ x,o.dst=some x→p.dst≠some x)∧apart r=true:=by
 rw[apart,Bool.and_eq_true] at h
 refine⟨fun p hp x hx=>?_,h.2⟩
 have:=h.1
 rw[hx] at this
 simpa using List.all_eq_true.1 this p hp
theorem fillL_upd (vals:Nat→Value) (v:Value):∀ (l:List Oper) (i k:Nat) (o:Oper) (a:Act),apart l=true→l[k]?=some o→fillL (upd vals (i+k) v) i l a=(fillL vals i l a).put o.dst v
 | [],_,_,_,_,_,hk=>by simp at hk
 | p :: r,i,0,o,a,ha,hk=>by
  simp only[List.getElem?_cons_zero,Option.some.injEq] at hk
  subst hk
  have:=apart_spec ha
  simp only[fillL,Nat.add_zero]
  rw[fillL_above vals i v r (i+1) _ (by omega),show upd vals i v i=v from if_pos rfl,←put_put a p.dst (vals i) v,fillL_put vals p.dst v r (i+1) _ this.1]
 | p :: r,i,k+1,o,a,ha,hk=>by
  simp only[List.getElem?_cons_succ] at hk
  simp only[fillL]
  rw[show upd vals (i+(k+1)) v i=vals i from if_neg (by omega),show i+(k+1)=(i+1)+k by omega]
  exact fillL_upd vals v r (i+1) k o _ (apart_spec ha).2 hk
def held (a:Act) (o:Oper):Value:=match o.dst with | none=>undef | some x=>a.tmps.getD x undef
theorem put_own (a:Act) (o:Oper):a.put o.dst (held a o)=a:=by
 unfold held
 cases hd:o.dst with
 | none=>rfl
 | some x =>
  simp only[Act.put]
  have:a.tmps.setIfInBounds x (a.tmps.getD x undef)=a.tmps:=by
   apply Array.ext
   ·simp
   intro i h1 h2
   rw[Array.getElem_setIfInBounds]
   split
   ·rename_i e;subst e;simp[Array.getD,h2]
   rfl
  rw[this]
theorem fillL_own (vals:Nat→Value) (a:Act):∀ (l:List Oper) (i:Nat),(∀ k o,l[k]?=some o→vals (i+k)=held a o)→fillL vals i l a=a
 | [],_,_=>rfl
 | o :: r,i,h=>by
  simp only[fillL]
  rw[show vals i=held a o by simpa using h 0 o rfl,put_own]
  exact fillL_own vals a r (i+1) (fun k p hk=>by rw[←h (k+1) p (by simpa using hk)];congr 1;omega)
def Facts (L:List (Value→World→Prop)) (vals:Nat→Value) (w:World):List Nat→Prop
 | []=>True
 | d :: r=>(L.getD d (fun _ _=>True)) (vals d) w∧Facts L vals w r
structure Info where
 deps:List Nat
 con:List Nat
 lin:Bool
def foot:Value→List Nat
 | .agg vs=>vs.toList.flatMap fun v=>v.ownBlock.toList
 | v=>v.ownBlock.toList
theorem facts_congr {L L':List (Value→World→Prop)} {vals:Nat→Value} {w:World}:∀ {d:List Nat},(∀ x∈d,L.getD x (fun _ _=>True)=L'.getD x (fun _ _=>True))→Facts L vals w d=Facts L' vals w d
 | [],_=>rfl
 | x :: r,h=>by
  simp only[Facts]
  rw[h x (by simp),facts_congr (fun y hy=>h y (by simp[hy]))]
theorem facts_of {L:List (Value→World→Prop)} {vals:Nat→Value} {w:World}:∀ {d:List Nat},(∀ x∈d,(L.getD x (fun _ _=>True)) (vals x) w)→Facts L vals w d
 | [],_=>trivial
 | x :: r,h=>⟨h x (by simp),facts_of (fun y hy=>h y (by simp[hy]))⟩
variable {G : World → Prop} {fr : (Nat → Value) → Act} {z : Nat} {fin : List Nat}
def afters (md:Region.Mode) (ops:Array Oper) (j:Nat):List Nat:=match ops[j]? with | none=>[] | some o=>(o.after.toList.filter (Region.binds md ·)).map (·.on)
def reach (md:Region.Mode) (ops:Array Oper):Nat→List Nat→List Nat
 | 0,l=>l
 | k+1,l=>reach md ops k (if l.contains k then l++afters md ops k else l)
theorem mem_afters {j x:Nat}:x∈afters md ops j↔∃ o,ops[j]?=some o∧∃ e∈o.after,Region.binds md e=true∧e.on=x:=by
 unfold afters
 cases ho:ops[j]? with
 | none=>simp
 | some o=>simp[and_assoc]
theorem reach_sound {listed:Array Bool} (hdn:∀ j oj,ops[j]?=some oj→listed.getD j false=true→∀ e∈oj.after,Region.binds md e=true→listed.getD e.on false=true) :
  ∀ (k:Nat) (l:List Nat),(∀ x∈l,listed.getD x false=true)→∀ x∈reach md ops k l,listed.getD x false=true
 | 0,_,h=>h
 | k+1,l,h=>by
  unfold reach
  refine reach_sound hdn k _ ?_
  split
  ·rename_i hc
   intro x hx
   rcases List.mem_append.1 hx with q | q
   ·exact h x q
   obtain⟨o,ho,e,he,hb,rfl⟩:=mem_afters.1 q
   exact hdn k o ho (h k (by simpa using hc)) e he hb
  exact h
end
end Go.Proofs.Ytbkjljffnkdcjaa
namespace Go.Proofs.Ytbkjljffnkdcjaa
open Go
section
variable {P : Program} {ops : Array Oper} {Q : Exit → Act → World → Prop} {md : Region.Mode} {S : World → Prop} {N : Nat → Bool} {R : List Nat}
def wpAnyN (P:Program) (md:Region.Mode) (ops:Array Oper) (Q:Exit→Act→World→Prop) (S:World→Prop) (N:Nat→Bool):Nat→Array Bool→Act→World→Prop
 | 0,listed,a,w=>Region.ready md ops listed=[]∧Q .normal a w
 | fuel+1,listed,a,w =>
  (Region.ready md ops listed=[]→Q .normal a w) ∧
  ∀ i∈Region.ready md ops listed,wpOp P ops Q i (fun a' w'=>(N i=true→S w')∧wpAnyN P md ops Q S N fuel (listed.setIfInBounds i true) a' w') a w
theorem wpAnyN_any:∀ (fuel:Nat) (listed:Array Bool) (a:Act) (w:World),wpAnyN P md ops Q S N fuel listed a w→wpAny P md ops Q fuel listed a w
 | 0,_,_,_,h=>h
 | fuel+1,_,_,_,h=>⟨h.1,fun i hi=>wpOp_mono (fun a' w' h'=>wpAnyN_any fuel _ a' w' h'.2) (h.2 i hi)⟩
def Down (md:Region.Mode) (ops:Array Oper) (listed:Array Bool):Prop:=∀ j oj,ops[j]?=some oj→listed.getD j false=true→∀ e∈oj.after,Region.binds md e=true→listed.getD e.on false=true
theorem down_set {listed:Array Bool} {j:Nat} (hd:Down md ops listed) (hj:j∈Region.ready md ops listed):Down md ops (listed.setIfInBounds j true):=by
 intro k ok hk hlk e he hb
 obtain⟨-,oj,hoj,hall⟩:=mem_ready.1 hj
 by_cases hkj:k=j
 ·subst hkj
  rw[hoj] at hk
  cases hk
  exact getD_set_true (hall e he hb)
 rw[getD_set_ne false (Ne.symm hkj)] at hlk
 exact getD_set_true (hd k ok hk hlk e he hb)
theorem not_reach {listed:Array Bool} {i j:Nat} (hd:Down md ops listed) (hj:j∈Region.ready md ops listed) (hi:listed.getD i false=false):i ∉ reach md ops ops.size (afters md ops j):=by
 intro h
 obtain⟨-,oj,hoj,hall⟩:=mem_ready.1 hj
 have:=reach_sound hd ops.size (afters md ops j) (fun x hx=>by
  obtain⟨o,ho,e,he,hb,rfl⟩:=mem_afters.1 hx
  rw[hoj] at ho
  cases ho
  exact hall e he hb) i h
 rw[hi] at this
 cases this
theorem unlisted {listed:Array Bool} {i:Nat} (hr:i∈Region.ready md ops listed):listed.getD i false=false:=by
 have h0:=(mem_ready.1 hr).1
 rcases Nat.lt_or_ge i listed.size with q | q
 ·simp[q] at h0 ⊢;exact h0
 simp[Array.getElem?_eq_none q] at h0
theorem wpAnyN_first {i:Nat} {oi:Oper} {v:Value} (hi:ops[i]?=some oi) (hsel:∀ (j:Nat) (o:Oper) cs b,ops[j]?=some o→o.op≠.select cs b)
  (hQ:∀ c a w,Q (.panic c) (a.put oi.dst v) w→Q (.panic c) a w)
  (hN:∀ j,j≠i→i ∉ reach md ops ops.size (afters md ops j)→N j=true) :
  ∀ (fuel:Nat) (listed:Array Bool) (a:Act) (w:World),Down md ops listed →
   (∀ j oj,ops[j]?=some oj→j≠i→listed.getD j true=false→(∀ e∈oj.after,Region.binds md e=true→e.on≠i)→oi.apart ops oj=true) →
   i∈Region.ready md ops listed→YieldsIf P ops S oi v a→S w →
   wpAnyN P md ops Q S N fuel (listed.setIfInBounds i true) (a.put oi.dst v) w→wpAnyN P md ops Q S N (fuel+1) listed a w:=by
 intro fuel
 induction fuel with
 | zero =>
  intro listed a w _ _ hr hy hS H
  refine⟨fun h=>(by rw[h] at hr;cases hr),fun j hj=>?_⟩
  by_cases hji:j=i
  ·subst hji;exact hy.wpOp hi hS ⟨fun _=>hS,H⟩
  have:=ready_mono hj hji
  rw[H.1] at this
  cases this
 | succ fuel ih =>
  intro listed a w hdn hfree hr hy hS H
  refine⟨fun h=>(by rw[h] at hr;cases hr),fun j hj=>?_⟩
  by_cases hji:j=i
  ·subst hji;exact hy.wpOp hi hS ⟨fun _=>hS,H⟩
  obtain⟨hjun,oj,hoj,hall⟩:=mem_ready.1 hj
  have hnot:∀ e∈oj.after,Region.binds md e=true→e.on≠i:=fun e he hb heq=>by
   have h1:=hall e he hb
   have h0:=(mem_ready.1 hr).1
   rw[heq] at h1
   rcases Nat.lt_or_ge i listed.size with h' | h'
   ·simp[h'] at h0 h1;rw[h0] at h1;cases h1
   simp[Array.getElem?_eq_none h'] at h1
  have hNj:=hN j hji (not_reach hdn hj (unlisted hr))
  have h2:=wpOp_putIf hoj (hfree j oj hoj hji hjun hnot) (fun cs b=>hsel i oi cs b hi) (fun cs b=>hsel j oj cs b hoj) hQ hy (H.2 j (ready_mono hj hji))
  refine wpOp_mono (fun a' w' h3=>⟨fun _=>h3.2.1 hNj,ih (listed.setIfInBounds j true) a' w' (down_set hdn hj) (fun k ok hk hki hun hno=>?_) (ready_mono hr (Ne.symm hji)) h3.1 (h3.2.1 hNj) ?_⟩) h2
  ·refine hfree k ok hk hki ?_ hno
   by_cases hjk:j=k
   ·subst hjk;exact hjun
   rw[getD_set_ne true hjk] at hun;exact hun
  rw[Array.setIfInBounds_comm _ _ hji]
  exact h3.2.2
def needs (md:Region.Mode) (ops:Array Oper) (R:List Nat) (j:Nat):Bool :=
 R.any fun i=>i != j&&!(reach md ops ops.size (afters md ops j)).contains i
theorem needs_of {i j:Nat} (hi:i∈R) (hne:j≠i) (hno:i ∉ reach md ops ops.size (afters md ops j)):needs md ops R j=true:=by
 refine List.any_eq_true.2 ⟨i,hi,?_⟩
 simp only[Bool.and_eq_true,bne_iff_ne,ne_eq,Bool.not_eq_true',List.contains_eq_mem,decide_eq_false_iff_not]
 exact⟨Ne.symm hne,hno⟩
def pick (ops:Array Oper) (order:List Nat):List (Nat × Oper):=order.filterMap fun i=>(ops[i]?).map fun o=>(i,o)
end
end Go.Proofs.Ytbkjljffnkdcjaa
namespace Go.Proofs.Ytbkjljffnkdcjaa
open Go
inductive Way where
 | done:Way
 | then_:Nat→Way→Way
 | fork:Nat→Nat→Way→Way→Way
def Way.size:Way→Nat
 | done=>0
 | then_ _ r=>r.size+1
 | fork _ _ r s=>max r.size s.size+1
def Way.line:List Nat→Way→Way
 | [],r=>r
 | i :: l,r=>.then_ i (Way.line l r)
section
variable {P : Program} {ops : Array Oper} {Q : Exit → Act → World → Prop} {md : Region.Mode} {S : World → Prop} {R : List Nat}
def Way.inside (n:Nat):Way→Bool
 | done=>true
 | then_ i r=>decide (i<n)&&r.inside n
 | fork i j r s=>decide (i<n)&&decide (j<n)&&r.inside n&&s.inside n
def wayChk (md:Region.Mode) (ops:Array Oper) (R:List Nat):Way→Array Bool→Bool
 | .done,listed=>(Region.ready md ops listed).isEmpty
 | .then_ i r,listed=>(if R.contains i then (Region.ready md ops listed).contains i&&Region.free md ops listed i else Region.ready md ops listed==[i])&&wayChk md ops R r (listed.setIfInBounds i true)
 | .fork i j r s,listed=>!R.contains i&&!R.contains j&&Region.ready md ops listed==[i,j]&&wayChk md ops R r (listed.setIfInBounds i true)&&wayChk md ops R s (listed.setIfInBounds j true)
def Along (P:Program) (md:Region.Mode) (ops:Array Oper) (Q:Exit→Act→World→Prop) (S:World→Prop) (R:List Nat):Way→Act→World→Prop
 | .done,a,w=>Q .normal a w
 | .then_ i r,a,w =>
  if R.contains i then ∃ o,ops[i]?=some o∧∃ v,YieldsIf P ops S o v a∧S w∧(∀ c a w,Q (.panic c) (a.put o.dst v) w→Q (.panic c) a w)∧Along P md ops Q S R r (a.put o.dst v) w
  else wpOp P ops Q i (fun a' w'=>(needs md ops R i=true→S w')∧Along P md ops Q S R r a' w') a w
 | .fork i j r s,a,w =>
  wpOp P ops Q i (fun a' w'=>(needs md ops R i=true→S w')∧Along P md ops Q S R r a' w') a w ∧
  wpOp P ops Q j (fun a' w'=>(needs md ops R j=true→S w')∧Along P md ops Q S R s a' w') a w
theorem along_sound (hs:Region.noSelect ops=true):∀ (way:Way) (listed:Array Bool) (a:Act) (w:World) (fuel:Nat),way.size≤fuel→way.inside ops.size=true→wayChk md ops R way listed=true→Down md ops listed →
  Along P md ops Q S R way a w→wpAnyN P md ops Q S (needs md ops R) fuel listed a w
 | .done,_,_,_,0,_,_,hc,_,h=>⟨by simpa[wayChk] using hc,h⟩
 | .done,_,_,_,n+1,_,_,hc,_,h=>⟨fun _=>h,by rw[show Region.ready md ops _=[] by simpa[wayChk] using hc];simp⟩
 | .then_ i rest,listed,a,w,0,hl,_,_,_,_=>by simp[Way.size] at hl
 | .fork i j r s,listed,a,w,0,hl,_,_,_,_=>by simp[Way.size] at hl
 | .then_ i rest,listed,a,w,fuel+1,hl,hlt,hc,hdn,h=>by
  simp only[Way.size,Nat.add_le_add_iff_right] at hl
  simp only[Way.inside,Bool.and_eq_true,decide_eq_true_eq] at hlt
  unfold wayChk at hc
  rw[Bool.and_eq_true] at hc
  unfold Along at h
  by_cases hR:R.contains i=true
  ·rw[if_pos hR] at h
   rw[if_pos hR,Bool.and_eq_true] at hc
   obtain⟨o,ho,v,hy,hS,hQ,h⟩:=h
   exact wpAnyN_first ho (Region.noSelect_spec hs) hQ (fun j hne hno=>needs_of (by simpa using hR) hne hno) fuel listed a w hdn (Region.free_spec ho hc.1.2) (by simpa using hc.1.1) hy hS
    (along_sound hs rest _ _ _ fuel hl hlt.2 hc.2 (down_set hdn (by simpa using hc.1.1)) h)
  rw[if_neg hR] at h hc
  have hr:Region.ready md ops listed=[i]:=by simpa using hc.1
  refine⟨fun h0=>(by rw[hr] at h0;cases h0),fun j hj=>?_⟩
  rw[hr] at hj
  obtain rfl:j=i:=by simpa using hj
  exact wpOp_mono (fun a' w' h'=>⟨h'.1,along_sound hs rest _ a' w' fuel hl hlt.2 hc.2 (down_set hdn (by rw[hr];simp)) h'.2⟩) h
 | .fork i j r s,listed,a,w,fuel+1,hl,hlt,hc,hdn,h=>by
  simp only[Way.size,Nat.add_le_add_iff_right] at hl
  simp only[Way.inside,Bool.and_eq_true,decide_eq_true_eq] at hlt
  unfold wayChk at hc
  simp only[Bool.and_eq_true,Bool.not_eq_true',beq_iff_eq] at hc
  obtain⟨⟨⟨⟨-,-⟩,hr⟩,hc1⟩,hc2⟩:=hc
  unfold Along at h
  refine⟨fun h0=>(by rw[hr] at h0;cases h0),fun k hk=>?_⟩
  rw[hr] at hk
  have hk':k=i∨k=j:=by simpa using hk
  rcases hk' with e | e
  ·subst e
   exact wpOp_mono (fun a' w' h'=>⟨h'.1,along_sound hs r _ a' w' fuel (by omega) hlt.1.2 hc1 (down_set hdn (by rw[hr];simp)) h'.2⟩) h.1
  subst e
  exact wpOp_mono (fun a' w' h'=>⟨h'.1,along_sound hs s _ a' w' fuel (by omega) hlt.2 hc2 (down_set hdn (by rw[hr];simp)) h'.2⟩) h.2
theorem wp_region_way {id:Nat} {a:Act} {w:World} (S:World→Prop) (R:List Nat) (way:Way) (hm:P.follows .mixedOrders=true)
  (hc:(Region.noSelect ops&&decide (way.size≤ops.size)&&way.inside ops.size&&wayChk .any ops R way (Array.replicate ops.size false))=true)
  (h:Along P .any ops Q S R way a w.drew):(Code.region id ops true).wp P Q a w:=by
 simp only[Bool.and_eq_true,decide_eq_true_eq] at hc
 exact wp_region_any hm (wpAnyN_any _ _ _ _ (along_sound hc.1.1.1 way _ a _ _ hc.1.1.2 hc.1.2 hc.2 (fun j _ _ hj=>by simp[Array.getElem?_replicate] at hj;split at hj <;> simp_all) h))
theorem along_read {i:Nat} {rest:Way} {a:Act} {w:World} {o:Oper} {v:Value} (ho:ops[i]?=some o) (hR:R.contains i=true) (hw:Region.wanted o (yielded ops a.tmps)=true)
  (hQ:∀ c a w,Q (.panic c) (a.put o.dst v) w→Q (.panic c) a w) (hS:S w) (hv:∀ w,S w→(execOp a.eval o).run P w=.ok (.value v) w) (h:Along P md ops Q S R rest (a.put o.dst v) w):Along P md ops Q S R (.then_ i rest) a w:=by
 unfold Along
 rw[if_pos hR]
 exact⟨o,ho,v,Or.inl ⟨hw,hv⟩,hS,hQ,h⟩
theorem along_off {i:Nat} {rest:Way} {a:Act} {w:World} {o:Oper} (ho:ops[i]?=some o) (hR:R.contains i=true) (hw:Region.wanted o (yielded ops a.tmps)=false)
  (hQ:∀ c a w,Q (.panic c) (a.put o.dst undef) w→Q (.panic c) a w) (hS:S w) (h:Along P md ops Q S R rest (a.put o.dst undef) w):Along P md ops Q S R (.then_ i rest) a w:=by
 unfold Along
 rw[if_pos hR]
 exact⟨o,ho,undef,Or.inr ⟨hw,rfl⟩,hS,hQ,h⟩
theorem along_skip {i:Nat} {rest:Way} {a:Act} {w:World} {o:Oper} (ho:ops[i]?=some o) (hR:R.contains i=false) (hw:Region.wanted o (yielded ops a.tmps)=false)
  (hS:S w) (h:Along P md ops Q S R rest (a.put o.dst undef) w):Along P md ops Q S R (.then_ i rest) a w:=by
 unfold Along
 rw[if_neg (by simp only[hR];decide)]
 unfold wpOp
 simp only[ho,hw]
 exact⟨fun _=>hS,h⟩
theorem along_op {i:Nat} {rest:Way} {a:Act} {w:World} {o:Oper} (ho:ops[i]?=some o) (hR:R.contains i=false) (hw:Region.wanted o (yielded ops a.tmps)=true)
  (h:∀ K:Act→World→Prop,Shut (∀ a w,(needs md ops R i=true→S w)→Along P md ops Q S R rest a w→K a w)→Oper.wp P o a w K Q):Along P md ops Q S R (.then_ i rest) a w:=by
 unfold Along
 rw[if_neg (by simp only[hR];decide)]
 unfold wpOp
 simp only[ho,hw,if_true]
 exact Or.inl (h _ (fun a w hS hr=>⟨hS,hr⟩))
theorem along_done {a:Act} {w:World} (h:Q .normal a w):Along P md ops Q S R .done a w:=h
end
end Go.Proofs.Ytbkjljffnkdcjaa
namespace Go.Proofs.Ytbkjljffnkdcjaa
open Go.RowKit Go.Maps
theorem rising_any (v:Value) (l:List Int) (n:Int) (w:World) (_hn:I64 n) (h:IntsAt w v l) :
  Calls Try.prog 21 #[v,.int .i64 n] w fun e w'=>e=.returned (.bool (Plain.rises l n))∧Chg [] w w':=by
 obtain⟨ao,cap,rfl,hsm,hm,hcell⟩:=h
 have HSM:=lh hsm
 have HCE:=lh hcell
 clear hsm hcell
 go_enter Try.func21,Try.ntmps21
 go_wp2
 go_loopw [9] (fun c wr=>∃ k:Nat,k≤l.length∧c=.int .i64 k∧Chg [] w wr∧Hid ((List.range k).all (Plain.risesAt l n)=true)) (fun c _=>l.length - (intOf c).toNat)
 case atStart=>exact⟨0,Nat.zero_le _,rfl,Chg.refl _ _,rfl⟩
 case round =>
  obtain⟨k,hk,rfl,hc,hall⟩:=hrel
  have HC:=lh hc
  by_cases hlt:k<l.length
  ·obtain⟨b,off,rfl,hfc⟩:=HCE.out (by intro e;rw[e] at hlt;simp at hlt)
   have c0:=hc.cell (hfc k hlt) (by simp)
   have hz:=HSM.out (l.getD k 0) (by simp[List.getD,hlt])
   have HF:=lh (fun h=>Plain.all_range_false (p:=Plain.risesAt l n) hlt h)
   have HS:=lh (Plain.all_range_succ (Plain.risesAt l n) k)
   cases k with
   | zero =>
    have HR:=lh (show Plain.risesAt l n 0=!(decide (l.getD 0 0<0) || decide (n≤l.getD 0 0)) by simp[Plain.risesAt])
    rw[Nat.add_zero] at c0
    clear hfc hc
    generalize l.getD 0 0=z at *
    by_cases h1:z<0
    ·go_wp2
     go_ret
     exact⟨ret_bool (by rw[HR.out] at HF;exact (HF.out (by simp[h1])).symm),HC.out⟩
    by_cases h2:n≤z
    ·go_wp2
     go_ret
     exact⟨ret_bool (by rw[HR.out] at HF;exact (HF.out (by simp[h2])).symm),HC.out⟩
    go_wp2
    go_roundw
    case rel=>exact⟨1,by omega,by go_num,HC.out,lh (by rw[HS.out,HR.out,hall.out];simp[h1,h2])⟩
    case measure=>simp[intOf];omega
   | succ m =>
    have c1:=hc.cell (hfc m (by omega)) (by simp)
    have HR:=lh (show Plain.risesAt l n (m+1)=!(decide (l.getD (m+1) 0<0) || decide (n≤l.getD (m+1) 0) || decide (l.getD (m+1) 0≤l.getD m 0)) by simp[Plain.risesAt])
    have hm1:(((m+1:Nat):Int) - 1)=(m:Int):=by omega
    have hy:=HSM.out (l.getD m 0) (by simp[List.getD,show m<l.length by omega])
    clear hfc hc
    generalize l.getD (m+1) 0=z at *
    generalize l.getD m 0=y at *
    by_cases h1:z<0
    ·go_wp2
     go_ret
     exact⟨ret_bool (by rw[HR.out] at HF;exact (HF.out (by simp[h1])).symm),HC.out⟩
    by_cases h2:n≤z
    ·go_wp2
     go_ret
     exact⟨ret_bool (by rw[HR.out] at HF;exact (HF.out (by simp[h2])).symm),HC.out⟩
    by_cases h3:z≤y
    ·go_wp2
     go_ret
     exact⟨ret_bool (by rw[HR.out] at HF;exact (HF.out (by simp[h3])).symm),HC.out⟩
    go_wp2
    go_roundw
    case rel=>exact⟨m+2,by omega,by go_num,HC.out,lh (by rw[HS.out,HR.out,hall.out];simp[h1,h2,h3])⟩
    case measure=>simp[intOf];omega
  have e:k=l.length:=by omega
  subst e
  go_wp2
  go_ret
  exact⟨ret_bool hall.out.symm,HC.out⟩
theorem graphRight_any (v:Value) (g:Plain.Gr) (w:World) (h:GrAt w v g) :
  Calls Try.prog 20 #[v] w fun e w'=>e=.returned (.int .i64 g.err)∧Chg [] w w':=by
 obtain⟨eo,cap,rfl,hn,hm,hsm,hcell⟩:=h
 have HSM:=lh hsm
 have HCE:=lh hcell
 have HN:=lh hn
 have hmin:-9223372036854775808≤g.n:=by have h:=hn;unfold I64 at h;simp only[Lit.wf,Bool.and_eq_true,decide_eq_true_eq] at h;exact h.1
 clear hsm hcell
 go_enter Try.func20,Try.ntmps20
 have HC1:=lh ((Chg.refl [] w).alloc (.cells #[.int .i64 g.n,.slice eo g.e.length cap] 24))
 by_cases h1:g.n<0
 ·have HE:=lh (show g.err=3 by unfold Plain.Gr.err;rw[if_pos h1])
  go_wp2
  go_ret
  exact⟨ret_int HE.out.symm,HC1.out⟩
 by_cases h2:1024<g.n
 ·have HE:=lh (show g.err=2 by unfold Plain.Gr.err;rw[if_neg h1,if_pos (Or.inl h2)])
  go_wp2
  go_ret
  exact⟨ret_int HE.out.symm,HC1.out⟩
 have hsub:(1024:Int) - g.n≤1024:=by omega
 by_cases h3:1024 - g.n<(g.e.length:Int)
 ·have HE:=lh (show g.err=2 by unfold Plain.Gr.err;rw[if_neg h1,if_pos (Or.inr h3)])
  go_wp2
  go_ret
  exact⟨ret_int HE.out.symm,HC1.out⟩
 have HER:=lh (show g.err=if (List.range g.e.length).all g.okEdge then 0 else 3 by unfold Plain.Gr.err;rw[if_neg h1,if_neg (by omega)])
 have hcn:(w.alloc (.cells #[.int .i64 g.n,.slice eo g.e.length cap] 24)).cell? ⟨w.heap.size,0,none⟩=some (.int .i64 g.n):=by rw[cell_of_row _ _ 0 _ _ _ (heap_alloc_new w _)];rfl
 have HCN:=lh hcn
 clear hcn
 go_wp2
 generalize (w.alloc (.cells #[.int .i64 g.n,.slice eo g.e.length cap] 24))=w1 at *
 generalize w.heap.size=gb at *
 go_loopw [23] (fun c wr=>∃ k:Nat,k≤g.e.length∧c=.int .i64 k∧Chg [] w1 wr∧Hid ((List.range k).all g.okEdge=true)) (fun c _=>g.e.length - (intOf c).toNat)
 case atStart=>exact⟨0,Nat.zero_le _,rfl,Chg.refl _ _,rfl⟩
 case round =>
  obtain⟨k,hk,rfl,hc,hall⟩:=hrel
  have HC:=lh hc
  have cn:=fun o=>cellNew (hc.cell HCN.out (by simp)) o
  by_cases hlt:k<g.e.length
  ·obtain⟨b,off,rfl,hc0,hc1⟩:=HCE.out k hlt
   have c0:=hc.cell (HC1.out.cell hc0 (by simp)) (by simp)
   have c1:=hc.cell (HC1.out.cell hc1 (by simp)) (by simp)
   obtain⟨z1,z2⟩:=HSM.out k hlt
   have HF:=lh (fun h=>Plain.all_range_false (p:=g.okEdge) hlt h)
   have HS:=lh (Plain.all_range_succ g.okEdge k)
   have HR:=lh (show g.okEdge k=!(decide ((g.ends k).1<0) || decide (g.n≤(g.ends k).1) || decide ((g.ends k).2<0) || decide (g.n≤(g.ends k).2)) from rfl)
   clear hc0 hc1 hc
   generalize (g.ends k).1=x at *
   generalize (g.ends k).2=y at *
   by_cases p1:x<0
   ·have HE:=lh (HER.out.trans (if_neg (by rw[HF.out (by rw[HR.out];simp[p1])];decide)))
    go_wp2
    go_ret
    exact⟨ret_int HE.out.symm,HC1.out.trans (HC.out.alloc _) (by simp)⟩
   skip
   by_cases p2:g.n≤x
   ·have HE:=lh (HER.out.trans (if_neg (by rw[HF.out (by rw[HR.out];simp[p2])];decide)))
    go_wp2
    go_ret
    exact⟨ret_int HE.out.symm,HC1.out.trans (HC.out.alloc _) (by simp)⟩
   skip
   by_cases p3:y<0
   ·have HE:=lh (HER.out.trans (if_neg (by rw[HF.out (by rw[HR.out];simp[p3])];decide)))
    go_wp2
    go_ret
    exact⟨ret_int HE.out.symm,HC1.out.trans (HC.out.alloc _) (by simp)⟩
   skip
   by_cases p4:g.n≤y
   ·have HE:=lh (HER.out.trans (if_neg (by rw[HF.out (by rw[HR.out];simp[p4])];decide)))
    go_wp2
    go_ret
    exact⟨ret_int HE.out.symm,HC1.out.trans (HC.out.alloc _) (by simp)⟩
   skip
   have HK:=lh (show (List.range (k+1)).all g.okEdge=true by rw[HS.out,HR.out,hall.out];simp[p1,p2,p3,p4])
   go_wp2
   go_roundw
   case rel=>exact⟨k+1,by omega,by go_num,HC.out.alloc _,HK⟩
   case measure=>simp[intOf];omega
  have e:k=g.e.length:=by omega
  subst e
  have HE:=lh (HER.out.trans (if_pos hall.out))
  go_wp2
  go_ret
  exact⟨ret_int HE.out.symm,HC1.out.trans HC.out (by simp)⟩
end Go.Proofs.Ytbkjljffnkdcjaa
namespace Go.Proofs
open Go.Shelf
def Try.lays189_ren:Go.Shelf.Ren:=⟨fun | 189=>64 | 125=>79 | 257=>78 | 128=>91 | 129=>92 | 294=>83 | 295=>84 | 296=>85 | 297=>86 | 298=>87 | 299=>88 | 216=>60 | 300=>89 | 301=>90 | 328=>93 | 329=>94 | 330=>95 | 331=>96 | 332=>97 | 215=>74 | 343=>98 | n=>n,fun | 28=>25 | 3=>3 | 46=>104 | 0=>0 | 51=>123 | 53=>125 | 4=>4 | 183=>117 | 182=>116 | 131=>50 | 5=>5 | 9=>9 | 218=>126 | 222=>130 | 228=>132 | 229=>133 | n=>n,fun | n=>n⟩
theorem Try.lays189:Go.Proofs.Lays.n189 Try.prog Try.lays189_ren:={
 mixed:=by kernel_rfl
 f125:=Try.func79.trans (congrArg some (by kernel_rfl))
 f128:=Try.func91.trans (congrArg some (by kernel_rfl))
 f129:=Try.func92.trans (congrArg some (by kernel_rfl))
 f189:=Try.func64.trans (congrArg some (by kernel_rfl))
 f215:=Try.func74.trans (congrArg some (by kernel_rfl))
 f216:=Try.func60.trans (congrArg some (by kernel_rfl))
 f257:=Try.func78.trans (congrArg some (by kernel_rfl))
 f294:=Try.func83.trans (congrArg some (by kernel_rfl))
 f295:=Try.func84.trans (congrArg some (by kernel_rfl))
 f296:=Try.func85.trans (congrArg some (by kernel_rfl))
 f297:=Try.func86.trans (congrArg some (by kernel_rfl))
 f298:=Try.func87.trans (congrArg some (by kernel_rfl))
 f299:=Try.func88.trans (congrArg some (by kernel_rfl))
 f300:=Try.func89.trans (congrArg some (by kernel_rfl))
 f301:=Try.func90.trans (congrArg some (by kernel_rfl))
 f328:=Try.func93.trans (congrArg some (by kernel_rfl))
 f329:=Try.func94.trans (congrArg some (by kernel_rfl))
 f330:=Try.func95.trans (congrArg some (by kernel_rfl))
 f331:=Try.func96.trans (congrArg some (by kernel_rfl))
 f332:=Try.func97.trans (congrArg some (by kernel_rfl))
 f343:=Try.func98.trans (congrArg some (by kernel_rfl))
 t0:=Try.underlying0
 a0:=Try.isAgg0
 z0:=Try.sizeOf0
 v0:=Try.zeroValue0
 t3:=Try.underlying3
 a3:=Try.isAgg3
 z3:=Try.sizeOf3
 v3:=Try.zeroValue3
 t4:=Try.underlying4
 a4:=Try.isAgg4
 z4:=Try.sizeOf4
 v4:=Try.zeroValue4
 t5:=Try.underlying5
 a5:=Try.isAgg5
 z5:=Try.sizeOf5
 v5:=Try.zeroValue5
 t9:=Try.underlying9
 a9:=Try.isAgg9
 z9:=Try.sizeOf9
 v9:=Try.zeroValue9
 t28:=Try.underlying25
 a28:=Try.isAgg25
 z28:=Try.sizeOf25
 v28:=Try.zeroValue25
 t46:=Try.underlying104
 a46:=Try.isAgg104
 z46:=Try.sizeOf104
 v46:=Try.zeroValue104
 t51:=Try.underlying123
 a51:=Try.isAgg123
 z51:=Try.sizeOf123
 v51:=Try.zeroValue123
 t53:=Try.underlying125
 a53:=Try.isAgg125
 z53:=Try.sizeOf125
 v53:=Try.zeroValue125
 t131:=Try.underlying50
 a131:=Try.isAgg50
 z131:=Try.sizeOf50
 v131:=Try.zeroValue50
 t182:=Try.underlying116
 a182:=Try.isAgg116
 z182:=Try.sizeOf116
 v182:=Try.zeroValue116
 t183:=Try.underlying117
 a183:=Try.isAgg117
 z183:=Try.sizeOf117
 v183:=Try.zeroValue117
 t218:=Try.underlying126
 a218:=Try.isAgg126
 z218:=Try.sizeOf126
 v218:=Try.zeroValue126
 t222:=Try.underlying130
 a222:=Try.isAgg130
 z222:=Try.sizeOf130
 v222:=Try.zeroValue130
 t228:=Try.underlying132
 a228:=Try.isAgg132
 z228:=Try.sizeOf132
 v228:=Try.zeroValue132
 t229:=Try.underlying133
 a229:=Try.isAgg133
 z229:=Try.sizeOf133
 v229:=Try.zeroValue133 }
open Go.Sort Go.RowKit in
theorem Try.slices_Sort_int (blk off cap:Nat) (zs:List Int) (w:World) (hH:Holds (Value.int .i64) w blk off zs.toArray) (hblk:blk<w.heap.size) (hsz:zs.length<4611686018427387904) :
  Calls Try.prog 64 #[.slice (some ⟨blk,off,none⟩) zs.length cap] w fun e w' =>
   e=.returned (.tuple #[])∧∃ n os,w'=grow (putRow (Value.int .i64) (Sort.ahead w n) blk off (zs.mergeSort fun x y=>decide (x≤y)).toArray) os:=Any.slices_Sort_int Try.lays189 blk off cap zs w hH hblk hsz
def Try.lays108_ren:Go.Shelf.Ren:=⟨fun | 108=>38 | n=>n,fun | 28=>25 | 3=>3 | 0=>0 | 4=>4 | n=>n,fun | n=>n⟩
theorem Try.lays108:Go.Proofs.Lays.n108 Try.prog Try.lays108_ren:={
 mixed:=by kernel_rfl
 f108:=Try.func38.trans (congrArg some (by kernel_rfl))
 t0:=Try.underlying0
 a0:=Try.isAgg0
 z0:=Try.sizeOf0
 v0:=Try.zeroValue0
 t3:=Try.underlying3
 a3:=Try.isAgg3
 z3:=Try.sizeOf3
 v3:=Try.zeroValue3
 t4:=Try.underlying4
 a4:=Try.isAgg4
 z4:=Try.sizeOf4
 v4:=Try.zeroValue4
 t28:=Try.underlying25
 a28:=Try.isAgg25
 z28:=Try.sizeOf25
 v28:=Try.zeroValue25 }
open Go.Lib in
theorem Try.slices_Index_int (b off n c:Nat) (zs:List Int) (x:Int) (w:World) (hz:n≤zs.length) (hbig:n≤9223372036854775807) (hc:∀ j,j<zs.length→w.cell? ⟨b,off+j,none⟩=some (.int .i64 (zs.getD j 0))) :
  Calls Try.prog 38 #[.slice (some ⟨b,off,none⟩) n c,.int .i64 x] w fun e w'=>e=.returned (.int .i64 (Lib.idxOf (zs.take n) x))∧w'=w:=Any.slices_Index_int Try.lays108 b off n c zs x w hz hbig hc
open Go.Lib in
theorem Try.slices_Index_int_empty (a:Option Addr) (c:Nat) (x:Int) (w:World) :
  Calls Try.prog 38 #[.slice a 0 c,.int .i64 x] w fun e w'=>e=.returned (.int .i64 (Lib.idxOf [] x))∧w'=w:=Any.slices_Index_int_empty Try.lays108 a c x w
def Try.lays107_ren:Go.Shelf.Ren:=⟨fun | 107=>56 | 108=>38 | n=>n,fun | 28=>25 | 3=>3 | 4=>4 | 0=>0 | n=>n,fun | n=>n⟩
theorem Try.lays107:Go.Proofs.Lays.n107 Try.prog Try.lays107_ren:={
 mixed:=by kernel_rfl
 f107:=Try.func56.trans (congrArg some (by kernel_rfl))
 f108:=Try.func38.trans (congrArg some (by kernel_rfl))
 t0:=Try.underlying0
 a0:=Try.isAgg0
 z0:=Try.sizeOf0
 v0:=Try.zeroValue0
 t3:=Try.underlying3
 a3:=Try.isAgg3
 z3:=Try.sizeOf3
 v3:=Try.zeroValue3
 t4:=Try.underlying4
 a4:=Try.isAgg4
 z4:=Try.sizeOf4
 v4:=Try.zeroValue4
 t28:=Try.underlying25
 a28:=Try.isAgg25
 z28:=Try.sizeOf25
 v28:=Try.zeroValue25 }
open Go.Lib in
theorem Try.slices_Contains_int (b off n c:Nat) (zs:List Int) (x:Int) (w:World) (hz:n≤zs.length) (hbig:n≤9223372036854775807) (hc:∀ j,j<zs.length→w.cell? ⟨b,off+j,none⟩=some (.int .i64 (zs.getD j 0))) :
  Calls Try.prog 56 #[.slice (some ⟨b,off,none⟩) n c,.int .i64 x] w fun e w'=>e=.returned (.bool ((zs.take n).contains x))∧w'=w:=Any.slices_Contains_int Try.lays107 b off n c zs x w hz hbig hc
open Go.Lib in
theorem Try.slices_Contains_int_empty (a:Option Addr) (c:Nat) (x:Int) (w:World) :
  Calls Try.prog 56 #[.slice a 0 c,.int .i64 x] w fun e w'=>e=.returned (.bool false)∧w'=w:=Any.slices_Contains_int_empty Try.lays107 a c x w
def Try.lays112_ren:Go.Shelf.Ren:=⟨fun | 112=>73 | n=>n,fun | 28=>25 | 3=>3 | 4=>4 | 0=>0 | n=>n,fun | n=>n⟩
theorem Try.lays112:Go.Proofs.Lays.n112 Try.prog Try.lays112_ren:={
 mixed:=by kernel_rfl
 f112:=Try.func73.trans (congrArg some (by kernel_rfl))
 t0:=Try.underlying0
 a0:=Try.isAgg0
 z0:=Try.sizeOf0
 v0:=Try.zeroValue0
 t3:=Try.underlying3
 a3:=Try.isAgg3
 z3:=Try.sizeOf3
 v3:=Try.zeroValue3
 t4:=Try.underlying4
 a4:=Try.isAgg4
 z4:=Try.sizeOf4
 v4:=Try.zeroValue4
 t28:=Try.underlying25
 a28:=Try.isAgg25
 z28:=Try.sizeOf25
 v28:=Try.zeroValue25 }
open Go.RowKit Go.Lib Go.Sort in
theorem Try.slices_Reverse_int (blk off cap:Nat) (zs:List Int) (w:World) (hH:Holds (Value.int .i64) w blk off zs.toArray) (hsz:zs.length≤9223372036854775807) :
  Calls Try.prog 73 #[.slice (some ⟨blk,off,none⟩) zs.length cap] w fun e w'=>e=.returned (.tuple #[])∧∃ n,w'=putRow (Value.int .i64) (Sort.ahead w n) blk off zs.reverse.toArray:=Any.slices_Reverse_int Try.lays112 blk off cap zs w hH hsz
open Go.RowKit Go.Lib Go.Sort in
theorem Try.slices_Reverse_int_empty (a:Option Addr) (cap:Nat) (w:World) :
  Calls Try.prog 73 #[.slice a 0 cap] w fun e w'=>e=.returned (.tuple #[])∧w'=w:=Any.slices_Reverse_int_empty Try.lays112 a cap w
def Try.lays111_ren:Go.Shelf.Ren:=⟨fun | 111=>46 | n=>n,fun | 28=>25 | 3=>3 | 4=>4 | 0=>0 | n=>n,fun | n=>n⟩
theorem Try.lays111:Go.Proofs.Lays.n111 Try.prog Try.lays111_ren:={
 mixed:=by kernel_rfl
 f111:=Try.func46.trans (congrArg some (by kernel_rfl))
 t0:=Try.underlying0
 a0:=Try.isAgg0
 z0:=Try.sizeOf0
 v0:=Try.zeroValue0
 t3:=Try.underlying3
 a3:=Try.isAgg3
 z3:=Try.sizeOf3
 v3:=Try.zeroValue3
 t4:=Try.underlying4
 a4:=Try.isAgg4
 z4:=Try.sizeOf4
 v4:=Try.zeroValue4
 t28:=Try.underlying25
 a28:=Try.isAgg25
 z28:=Try.sizeOf25
 v28:=Try.zeroValue25 }
open Go.RowKit Go.Lib in
theorem Try.slices_Equal_int (b1 o1 n c b2 o2 m d:Nat) (xs ys:List Int) (w:World) (hx:n≤xs.length) (hy:m≤ys.length) (hbig:n≤9223372036854775807) (hbig2:m≤9223372036854775807) (hc1:∀ j,j<xs.length→w.cell? ⟨b1,o1+j,none⟩=some (.int .i64 (xs.getD j 0))) (hc2:∀ j,j<ys.length→w.cell? ⟨b2,o2+j,none⟩=some (.int .i64 (ys.getD j 0))) :
  Calls Try.prog 46 #[.slice (some ⟨b1,o1,none⟩) n c,.slice (some ⟨b2,o2,none⟩) m d] w fun e w'=>e=.returned (.bool (xs.take n==ys.take m))∧∃ q,w'=w.drewN q:=Any.slices_Equal_int Try.lays111 b1 o1 n c b2 o2 m d xs ys w hx hy hbig hbig2 hc1 hc2
open Go.RowKit Go.Lib in
theorem Try.slices_Equal_int_empty (a1 a2:Option Addr) (c m d:Nat) (w:World) (hbig2:m≤9223372036854775807) :
  Calls Try.prog 46 #[.slice a1 0 c,.slice a2 m d] w fun e w'=>e=.returned (.bool (decide (m=0)))∧w'=w:=Any.slices_Equal_int_empty Try.lays111 a1 a2 c m d w hbig2
def Try.laysNm215_ren:Go.Shelf.Ren:=⟨fun | 15=>66 | n=>n,fun | 22=>25 | 3=>3 | 4=>4 | n=>n,fun | n=>n⟩
theorem Try.laysNm215:Go.Proofs.Lays2.n15 Try.prog Try.laysNm215_ren:={
 mixed:=by kernel_rfl
 f15:=Try.func66.trans (congrArg some (by kernel_rfl))
 t3:=Try.underlying3
 a3:=Try.isAgg3
 z3:=Try.sizeOf3
 v3:=Try.zeroValue3
 t4:=Try.underlying4
 a4:=Try.isAgg4
 z4:=Try.sizeOf4
 v4:=Try.zeroValue4
 t22:=Try.underlying25
 a22:=Try.isAgg25
 z22:=Try.sizeOf25
 v22:=Try.zeroValue25
 i3:=by kernel_rfl }
open Go.RowKit Go.Lib in
theorem Try.slices_Clone_int (b off n c:Nat) (zs:List Int) (w:World) (hz:n≤zs.length) (hbig:n*8≤140737488355328) (hc:∀ j,j<zs.length→w.cell? ⟨b,off+j,none⟩=some (.int .i64 (zs.getD j 0))) :
  Calls Try.prog 66 #[.slice (some ⟨b,off,none⟩) n c] w fun e w'=>∃ v',e=.returned v'∧w'.ownsRow w.heap.size 3 1 v' n ((zs.take n).map (Value.int .i64))∧v'≠.slice none 0 0∧Below w.heap.size w w':=Any.slices_Clone_int Try.laysNm215 b off n c zs w hz hbig hc
open Go.RowKit Go.Lib in
theorem Try.slices_Clone_int_nil (n c:Nat) (w:World) :
  Calls Try.prog 66 #[.slice none n c] w fun e w'=>e=.returned (.slice none 0 0)∧w'=w:=Any.slices_Clone_int_nil Try.laysNm215 n c w
open Go.RowKit Go.Lib in
theorem Try.slices_Clone_int_zero (a:Addr) (c:Nat) (w:World) :
  Calls Try.prog 66 #[.slice (some a) 0 c] w fun e w'=>∃ v',e=.returned v'∧w'.ownsRow w.heap.size 3 1 v' 0 []∧v'≠.slice none 0 0∧Below w.heap.size w w':=Any.slices_Clone_int_zero Try.laysNm215 a c w
def Try.laysNm220_ren:Go.Shelf.Ren:=⟨fun | 20=>67 | n=>n,fun | 22=>25 | 3=>3 | 4=>4 | 0=>0 | n=>n,fun | n=>n⟩
theorem Try.laysNm220:Go.Proofs.Lays2.n20 Try.prog Try.laysNm220_ren:={
 mixed:=by kernel_rfl
 f20:=Try.func67.trans (congrArg some (by kernel_rfl))
 t0:=Try.underlying0
 a0:=Try.isAgg0
 z0:=Try.sizeOf0
 v0:=Try.zeroValue0
 t3:=Try.underlying3
 a3:=Try.isAgg3
 z3:=Try.sizeOf3
 v3:=Try.zeroValue3
 t4:=Try.underlying4
 a4:=Try.isAgg4
 z4:=Try.sizeOf4
 v4:=Try.zeroValue4
 t22:=Try.underlying25
 a22:=Try.isAgg25
 z22:=Try.sizeOf25
 v22:=Try.zeroValue25
 i3:=by kernel_rfl }
open Go.RowKit Go.Lib Go.Sort in
theorem Try.slices_Compact_int (blk off cap:Nat) (zs:List Int) (w:World) (hH:Holds (Value.int .i64) w blk off zs.toArray) (hsz:zs.length≤9223372036854775807) (hcap:zs.length≤cap) :
  Calls Try.prog 67 #[.slice (some ⟨blk,off,none⟩) zs.length cap] w fun e w'=>e=.returned (.slice (some ⟨blk,off,none⟩) (Lib.compact zs).length cap)∧∃ q,w'=putRow (Value.int .i64) (Sort.ahead w q) blk off (Lib.compact zs++List.replicate (zs.length - (Lib.compact zs).length) 0).toArray:=Any.slices_Compact_int Try.laysNm220 blk off cap zs w hH hsz hcap
open Go.RowKit Go.Lib Go.Sort in
theorem Try.slices_Compact_int_empty (a:Option Addr) (cap:Nat) (w:World) :
  Calls Try.prog 67 #[.slice a 0 cap] w fun e w'=>e=.returned (.slice a 0 cap)∧w'=w:=Any.slices_Compact_int_empty Try.laysNm220 a cap w
def Try.laysNm225_ren:Go.Shelf.Ren:=⟨fun | 25=>41 | 31=>60 | 32=>61 | 37=>74 | n=>n,fun | 22=>25 | 3=>3 | 4=>4 | 40=>104 | 0=>0 | n=>n,fun | n=>n⟩
theorem Try.laysNm225:Go.Proofs.Lays2.n25 Try.prog Try.laysNm225_ren:={
 mixed:=by kernel_rfl
 f25:=Try.func41.trans (congrArg some (by kernel_rfl))
 f31:=Try.func60.trans (congrArg some (by kernel_rfl))
 f32:=Try.func61.trans (congrArg some (by kernel_rfl))
 f37:=Try.func74.trans (congrArg some (by kernel_rfl))
 t0:=Try.underlying0
 a0:=Try.isAgg0
 z0:=Try.sizeOf0
 v0:=Try.zeroValue0
 t3:=Try.underlying3
 a3:=Try.isAgg3
 z3:=Try.sizeOf3
 v3:=Try.zeroValue3
 t4:=Try.underlying4
 a4:=Try.isAgg4
 z4:=Try.sizeOf4
 v4:=Try.zeroValue4
 t22:=Try.underlying25
 a22:=Try.isAgg25
 z22:=Try.sizeOf25
 v22:=Try.zeroValue25
 t40:=Try.underlying104
 a40:=Try.isAgg104
 z40:=Try.sizeOf104
 v40:=Try.zeroValue104 }
open Go.RowKit Go.Lib in
theorem Try.slices_BinarySearch_int (b off n c:Nat) (zs:List Int) (x:Int) (w:World) (hz:n≤zs.length) (hbig:n<4611686018427387904) (hc:∀ j,j<zs.length→w.cell? ⟨b,off+j,none⟩=some (.int .i64 (zs.getD j 0))) (hs:(zs.take n).Pairwise (·≤·)) :
  Calls Try.prog 41 #[.slice (some ⟨b,off,none⟩) n c,.int .i64 x] w fun e w'=>e=.returned (.tuple #[.int .i64 ((zs.take n).countP (·<x):Nat),.bool ((zs.take n).contains x)])∧∃ q,w'=w.drewN q:=Any.slices_BinarySearch_int Try.laysNm225 b off n c zs x w hz hbig hc hs
def Try.laysNm223_ren:Go.Shelf.Ren:=⟨fun | 23=>39 | n=>n,fun | 22=>25 | 3=>3 | 4=>4 | 0=>0 | n=>n,fun | n=>n⟩
theorem Try.laysNm223:Go.Proofs.Lays2.n23 Try.prog Try.laysNm223_ren:={
 mixed:=by kernel_rfl
 f23:=Try.func39.trans (congrArg some (by kernel_rfl))
 t0:=Try.underlying0
 a0:=Try.isAgg0
 z0:=Try.sizeOf0
 v0:=Try.zeroValue0
 t3:=Try.underlying3
 a3:=Try.isAgg3
 z3:=Try.sizeOf3
 v3:=Try.zeroValue3
 t4:=Try.underlying4
 a4:=Try.isAgg4
 z4:=Try.sizeOf4
 v4:=Try.zeroValue4
 t22:=Try.underlying25
 a22:=Try.isAgg25
 z22:=Try.sizeOf25
 v22:=Try.zeroValue25
 i3:=by kernel_rfl }
open Go.RowKit Go.Lib Go.Sort in
theorem Try.slices_Delete_int (blk off cap i j:Nat) (zs:List Int) (w:World) (hH:Holds (Value.int .i64) w blk off zs.toArray) (hcap:zs.length≤cap) (hm:cap≤9223372036854775807) (hij:i≤j) (hj:j≤zs.length) :
  Calls Try.prog 39 #[.slice (some ⟨blk,off,none⟩) zs.length cap,.int .i64 i,.int .i64 j] w fun e w'=>e=.returned (.slice (some ⟨blk,off,none⟩) (zs.length - (j - i)) cap)∧∃ q,w'=putRow (Value.int .i64) (Sort.ahead w q) blk off (zs.take i++zs.drop j++List.replicate (j - i) 0).toArray:=Any.slices_Delete_int Try.laysNm223 blk off cap i j zs w hH hcap hm hij hj
open Go.RowKit Go.Sort in
theorem Try.slices_Sort_int_none (p:Option Addr) (cap:Nat) (w:World) :
  Calls Try.prog 64 #[.slice p 0 cap] w fun e w'=>e=.returned (.tuple #[])∧w'=w:=Any.slices_Sort_int_none Try.lays189 p cap w
open Go.RowKit Go.Lib in
theorem Try.slices_BinarySearch_int_empty (a:Option Addr) (c:Nat) (x:Int) (w:World) :
  Calls Try.prog 41 #[.slice a 0 c,.int .i64 x] w fun e w'=>e=.returned (.tuple #[.int .i64 0,.bool false])∧w'=w:=Any.slices_BinarySearch_int_empty Try.laysNm225 a c x w
open Go.RowKit Go.Lib in
theorem Try.slices_Equal_int_lens (a1 a2:Option Addr) (n c m d:Nat) (w:World) (hnm:n≠m) :
  Calls Try.prog 46 #[.slice a1 n c,.slice a2 m d] w fun e w'=>e=.returned (.bool false)∧w'=w:=Any.slices_Equal_int_lens Try.lays111 a1 a2 n c m d w hnm
end Go.Proofs
