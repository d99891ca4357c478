/- Pieces on spheres: vertices, ah and walks. No program here. -/
import Derived.Test.YtbkjljffnkdcjaaGreatD9Perm
import Derived.Test.YtbkjljffnkdcjaaGreatRows
import Derived.WalkLawsBesides
import Derived.WalkSpells
import Derived.Maps.OwnSet
import Derived.Maps.RangeWalk
import Derived.Maps.AppendAt
import Derived.Defers
import Derived.Recover
import Derived.Lib.Hide
open List renaming getElem?_append_left→Qa,getD→Qb,range→Qc,idxOf_append→Qd,map_cons→Qe,range_succ→Qf,countP_append→Qg,mem_filter→Qk,length_filter_le→Ql,mem_range→Qm,map_congr_left→Qn,Pairwise→Qo,sum_cons→Qp,filter_append→Qq,mem_map→Qr,filter_congr→Qt,countP_congr→Qu,length_cons→Qv,map_toArray→Qw,getElem_map→Qz,map_nil→QC
open Array renaming getElem?_eq_getElem→Qh
open Go.World renaming block_lt_of_cell?→Qi
open Nat renaming le_total→Qj,le_trans→Qs,max_eq_right→Qx,min_eq_right→Qy,max_eq_left→QA,min_eq_left→QB
open Or renaming inl→QD
namespace Go.Proofs.YtbkjljffnkdcjaaGreat.Plain
structure aH (g:Gr) (p:Pt):Prop where
 vn:p.v.Nodup
 en:p.e.Nodup
 vr:∀ v∈p.v,0<=v/\v<g.n
 er:∀ e∈p.e,0<=e
 ends:∀ e∈p.e,(g.at e).1∈p.v/\(g.at e).2∈p.v
theorem bO {l:List Int} {x:Int} (h:x∈l):∃ i,i<l.length/\l.getD i 0=x:=by
 obtain⟨i,hi,rfl⟩:=List.getElem_of_mem h;exact⟨i,hi,by simp[Qb,hi]⟩
theorem Pt.aF {g:Gr} {p:Pt} (h:p.err g=0):aH g p:=by
 obtain⟨h1,h2,h3,h4⟩:=Pt.aP h;refine⟨jI h2,jI h3,fun v hv=>?_,fun e he=>?_,fun e he=>?_⟩
 ·obtain⟨i,hi,rfl⟩:=bO hv
  have:=ct h2 hi;exact⟨this.1,this.2.1⟩
 ·obtain⟨i,hi,rfl⟩:=bO he
  exact (ct h3 hi).1
 obtain⟨i,hi,rfl⟩:=bO he;exact h4 i hi
theorem aH.aQ {g:Gr} {p:Pt} (h:aH g p) {d:Int} (hd:d∈p.ag):g.tail d∈p.v/\g.head d∈p.v:=by
 have:=h.ends _ (aw.1 hd);unfold Gr.tail Gr.head;split
 ·exact this
 exact this.symm
theorem eK {g:Gr} {p:Pt} {d:Int} (hd:d∈p.ag):qF g p (g.tail d) (g.head d):=by
 refine⟨d / 2,aw.1 hd,?_⟩;unfold Gr.tail Gr.head;split
 ·exact QD rfl
 exact Or.inr rfl
theorem ug {g:Gr} {p:Pt} (h:aH g p) (a:Int):B6 g p (comp g p a):=by
 intro d hd ht;obtain⟨_,h2⟩:=cW.1 ht;have hh:=(h.aQ hd).2;exact cW.2 ⟨hh,h2.step (eK hd) (by have:=h.vr _ hh;omega)⟩
theorem H9 {g:Gr} {p:Pt} (h:aH g p) (a:Int):(comp g p a).Nodup:=by
 classical
 exact Qo.filter _ h.vn
theorem lB {g:Gr} {p:Pt} (h:aH g p):(roots g p).Nodup:=by
 classical
 exact Qo.filter _ h.vn
theorem dV (g:Gr) (e:Int):g.tail (2*e)=(g.at e).1/\g.head (2*e)=(g.at e).2:=by
 unfold Gr.tail Gr.head;rw[if_pos (by omega),if_pos (by omega),show 2*e / 2=e by omega];exact⟨rfl,rfl⟩
theorem zU {g:Gr} {p:Pt} (h:aH g p) (a:Int):(p.sub g (comp g p a)).e=p.e.filter fun e=>decide (g.tail (2*e)∈comp g p a):=by
 unfold Pt.sub;refine Qt fun e he=>?_;have hd:2*e∈p.ag:=aw.2 (by rwa[show 2*e / 2=e by omega]);obtain⟨e1,e2⟩:=dV g e;have hc:=nD (ug h a) hd;rw[e1,e2] at hc;rw[e1];by_cases q:(g.at e).1∈comp g p a
 ·have:=hc.2 q
  simp[q,this]
 simp[q]
theorem Lw {g:Gr} {p:Pt} (a:Int):(p.sub g (comp g p a)).v.length=(comp g p a).length:=by
 unfold Pt.sub
 classical
 have:p.v.filter (fun v=>decide (v∈comp g p a))=comp g p a:=by
  unfold comp;refine Qt fun v hv=>?_;simp[hv]
 rw[this]
theorem wC {g:Gr} {p:Pt} {aa:List (List Int)} {W:List bR} (h:aH g p) (hW:sk g p aa W):∀ f∈W,f.de g∈p.v:=by
 intro f hf;obtain⟨k,l⟩:=f;cases l with
 | nil =>
  have:k∈(W.filter fun f=>f.2.isEmpty).map (·.1):=Qr.2 ⟨(k,[]),Qk.2 ⟨hf,rfl⟩,rfl⟩;obtain⟨v,hv,e⟩:=Qr.1 (hW.lone.mem_iff.1 this);show -1 - k∈p.v;rw[<-e,show -1 - (-1 - v)=v by omega];exact (Qk.1 hv).1
 | cons d l =>
  have e:k=d:=hW.key (k,d :: l) hf d l rfl;subst e;have:k∈p.ag:=hW.all.mem_iff.1 (List.mem_flatten.2 ⟨k :: l,Qr.2 ⟨(k,k :: l),Qk.2 ⟨hf,rfl⟩,rfl⟩,by simp⟩);exact (h.aQ this).1
noncomputable def dT (g:Gr) (p:Pt) (W:List bR) (r:Int):Int :=
 (2 - ((comp g p r).length:Int)+((p.e.filter fun e=>decide (g.tail (2*e)∈comp g p r)).length:Int) - ((W.filter fun f=>decide (f.de g∈comp g p r)).length:Int)).tdiv 2
theorem Gh {g:Gr} {p:Pt} {aa:List (List Int)} {W:List bR} (h:aH g p) (ht:aT g p aa) (hW:sk g p aa W) {r:Int} (hz:dT g p W r=0) :
  (comp g p r).length+(W.filter fun f=>decide (f.de g∈comp g p r)).length=2+(p.e.filter fun e=>decide (g.tail (2*e)∈comp g p r)).length:=by
 have pA:=Iv ht h.en h.vn (fun d hd=>h.vr _ (h.aQ hd).1) hW (H9 h r) (fun v hv=>⟨(cW.1 hv).1,h.vr _ (cW.1 hv).1⟩) (ug h r);unfold dT at hz;have h2:=Int.natAbs_tdiv (2 - ((comp g p r).length:Int)+((p.e.filter fun e=>decide (g.tail (2*e)∈comp g p r)).length:Int) - ((W.filter fun f=>decide (f.de g∈comp g p r)).length:Int)) 2;rw[hz] at h2;generalize (comp g p r).length=a at *;generalize (p.e.filter fun e=>decide (g.tail (2*e)∈comp g p r)).length=b at *;generalize (W.filter fun f=>decide (f.de g∈comp g p r)).length=c at *;have h3:(2 - (a:Int)+(b:Int) - (c:Int)).natAbs / 2=0:=h2.symm;omega
theorem tf {α:Type} {g:Gr} {p:Pt} (h:aH g p) (f:α->Int) (L:List α) (hf:∀ x∈L,f x∈p.v):((roots g p).map fun r=>(L.filter fun x=>decide (f x∈comp g p r)).length).sum=L.length:=by
 refine tL (fun x r=>decide (f x∈comp g p r)) (lB h) fun x hx=>⟨?_,fun r hr s hs h1 h2=>?_⟩
 ·obtain⟨r,hr,hc⟩:=rK (g:=g) (fun v hv=>(h.vr v hv).1) (hf x hx)
  exact⟨r,hr,decide_eq_true (cW.2 ⟨hf x hx,hc⟩)⟩
 exact nZ (fun v hv=>(h.vr v hv).1) hr hs (cW.1 (of_decide_eq_true h1)).2 (cW.1 (of_decide_eq_true h2)).2
theorem zV {α:Type} {f g:α->Nat}:∀ {R:List α},(∀ r∈R,f r=g r)->(R.map f).sum=(R.map g).sum
 | [],_=>rfl
 | a :: R,h=>by rw[Qe,Qe,Qp,Qp,h a (by simp),zV fun r hr=>h r (by simp[hr])]
theorem AF (c:Nat) {α:Type}:∀ R:List α,(R.map fun _=>c).sum=c*R.length
 | []=>rfl
 | a :: R=>by rw[Qe,Qp,AF c R,Qv,Nat.mul_succ];omega
theorem pZ {g:Gr} {p:Pt} {aa:List (List Int)} {W:List bR} (h:aH g p) (ht:aT g p aa) (hW:sk g p aa W) (hz:∀ r∈roots g p,dT g p W r=0) :
  p.v.length+W.length=2*(roots g p).length+p.e.length:=by
 have e1:=tf h (fun v=>v) p.v (fun _ hv=>hv);have e2:=tf h (fun e=>g.tail (2*e)) p.e (fun e he=>(h.aQ (aw.2 (by rwa[show 2*e / 2=e by omega]))).1);have e3:=tf h (fun f:bR=>f.de g) W (wC h hW);have e0:(roots g p).map (fun r=>(p.v.filter fun v=>decide (v∈comp g p r)).length)=(roots g p).map fun r=>(comp g p r).length:=Qn fun r _=>Lw r;have e4:=zV (R:=roots g p) (f:=fun r=>(comp g p r).length+(W.filter fun f=>decide (f.de g∈comp g p r)).length) (g:=fun r=>2+(p.e.filter fun e=>decide (g.tail (2*e)∈comp g p r)).length) (fun r hr=>Gh h ht hW (hz r hr));rw[sum_add,sum_add,AF] at e4;rw[e0] at e1;omega
end Go.Proofs.YtbkjljffnkdcjaaGreat.Plain
namespace Go.Proofs.YtbkjljffnkdcjaaGreat
open Go.RowKit Go.Maps
structure ai (own:List Nat) (w w':World):Prop where
 os:w'.os=w.os
 tape:w'.tape=w.tape
 output:w'.output=w.output
 size:w.heap.size<=w'.heap.size
 block:∀ k,k<w.heap.size->k ∉ own->w'.heap[k]?=w.heap[k]?
theorem ai.refl (own:List Nat) (w:World):ai own w w:=⟨rfl,rfl,rfl,Nat.le_refl _,fun _ _ _=>rfl⟩
theorem ai.trans {own lY:List Nat} {a b c:World} (h:ai own a b) (k:ai lY b c) (hs:∀ j∈lY,j∈own\/a.heap.size<=j):ai own a c :=
 ⟨k.os.trans h.os,k.tape.trans h.tape,k.output.trans h.output,Qs h.size k.size,fun i hi hn =>
  (k.block i (Nat.lt_of_lt_of_le hi h.size) (fun e=>by rcases hs i e with h1 | h1;exact hn h1;omega)).trans (h.block i hi hn)⟩
theorem ai.mono {own lY:List Nat} {a b:World} (h:ai own a b) (hs:∀ j∈own,j∈lY\/a.heap.size<=j):ai lY a b :=
 ⟨h.os,h.tape,h.output,h.size,fun i hi hn=>h.block i hi (fun e=>by rcases hs i e with h1 | h1;exact hn h1;omega)⟩
theorem ai.drew {own:List Nat} {a w:World} (h:ai own a w):ai own a w.drew:=⟨h.os,h.tape,h.output,h.size,h.block⟩
theorem ai.alloc {own:List Nat} {a w:World} (h:ai own a w) (o:Obj):ai own a (w.alloc o) :=
 h.trans (lY:=[]) ⟨rfl,rfl,rfl,by simp,fun k hk _=>Below.heap_alloc _ _ _ hk⟩ (by simp)
theorem ai.setCell {own:List Nat} {a w:World} (h:ai own a w) {p:Addr} (hp:p.block∈own\/a.heap.size<=p.block) (u:Value):ai own a (w.setCell p u) :=
 h.trans (lY:=[p.block]) ⟨rfl,rfl,rfl,by simp[World.setCell],fun k _ hn=>Below.heap_setCell _ _ _ _ (by simpa using hn)⟩ (by simpa using hp)
theorem ai.grown {own:List Nat} {a w w':World} {row:Option Nat} (h:ai own a w) (hg:w.grownBy w' row) (hr:∀ k,row=some k->k∈own\/a.heap.size<=k):ai own a w' :=
 h.trans (lY:=row.toList) ⟨hg.os,hg.tape,hg.output,hg.size,fun k hk hn=>hg.block k hk (fun e=>hn (by simp[<-e]))⟩ (fun j hj=>hr j (by simpa using hj))
theorem ai.below {a w:World} (h:ai [] a w):Below a.heap.size a w:=⟨h.os,h.tape,h.output,h.size,fun k hk=>h.block k hk (by simp)⟩
theorem ai.grownBy {a w:World} {own:List Nat} (h:ai own a w) {row:Option Nat} (hr:∀ k∈own,some k=row):a.grownBy w row :=
 ⟨h.os,h.tape,h.output,h.size,fun k hk hn=>h.block k hk (fun e=>hn (hr k e))⟩
theorem ai.n9 {a w:World} {B:Nat} (h:Below B a w) (hB:a.heap.size<=B):ai [] a w:=⟨h.os,h.tape,h.output,h.size,fun k hk _=>h.block k (by omega)⟩
theorem ai.cell {own:List Nat} {a w:World} (h:ai own a w) {p:Addr} {v:Value} (hc:a.cell? p=some v) (hn:p.block ∉ own):w.cell? p=some v :=
 (World.cell?_of_block (w:=a) (h.block p.block (Qi a p hc) hn)).trans hc
theorem ai.frozen {own:List Nat} {a w:World} (h:ai own a w) {p:Addr} {v:Value} (hc:a.cell? p=some v) (hf:a.frozen? p=false) (hn:p.block ∉ own):w.frozen? p=false :=
 (World.frozen?_of_block (w:=a) (h.block p.block (Qi a p hc) hn)).trans hf
theorem dC {w:World} {p:Addr} {v:Value} (h:w.cell? p=some v) (o:Obj):(w.alloc o).cell? p=some v:=((ai.refl [] w).alloc o).cell h (by simp)
theorem OO (x:Int):∀ u∈(#[Value.int .i64 x]).toList,u.oneCell'=true:=by intro u hu;simp at hu;subst hu;rfl
theorem Ei (a:Option Addr) (n c:Nat):∀ u∈(#[Value.slice a n c]).toList,u.oneCell'=true:=by intro u hu;simp at hu;subst hu;rfl
theorem ai.heap {own:List Nat} {a w:World} (h:ai own a w) {k:Nat} {o:Obj} (hc:a.heap[k]?=some o) (hn:k ∉ own):w.heap[k]?=some o :=
 (h.block k (lt_of_block hc) hn).trans hc
theorem heap_setCell_same {w:World} {b:Nat} {cs:Array Value} {t:TypeId} {r:Nat × Nat} (h:w.heap[b]?=some (.cells cs t r)) (i:Nat) (u:Value):(w.setCell ⟨b,i,none⟩ u).heap[b]?=some (.cells (cs.setIfInBounds i u) t r):=by
 have aU:=lt_of_block h;have h':w.heap[b]=.cells cs t r:=by simpa[Qh aU] using h
 show (w.heap.modify b _)[b]?=_;rw[Qh (by simpa using aU),Array.getElem_modify_self,h'];rfl
theorem bB {a b:Bool} (h:a=b):Ending.returned (.bool a)=.returned (.bool b):=by rw[h]
theorem bS {a b:Int} (h:a=b):Ending.returned (.int .i64 a)=.returned (.int .i64 b):=by rw[h]
theorem four {w:World} {b:Nat} {a0 a1 a2 a3:Value} {t:TypeId} (h:w.heap[b]?=some (.cells #[a0,a1,a2,a3] t (0,0))) :
  w.cell? ⟨b,0,none⟩=some a0/\w.cell? ⟨b,1,none⟩=some a1/\w.cell? ⟨b,2,none⟩=some a2/\w.cell? ⟨b,3,none⟩=some a3/\w.frozen? ⟨b,1,none⟩=false/\w.frozen? ⟨b,2,none⟩=false/\w.frozen? ⟨b,3,none⟩=false:=by
 simp[World.cell?,World.frozen?,h]
theorem bM:Keyed Tryz.prog 3:=int_keyed Tryz.underlying3
theorem rq (w:World):(zeroValue 3).run Tryz.prog w=.ok (.int .i64 0) w:=by kernel_rfl
def bn (x:Int):Prop:=(Lit.int .i64 x).wf=true
theorem bn.mk {x:Int} (h1:-9223372036854775808<=x) (h2:x<=9223372036854775807):bn x:=WalkArith.wf_i64 (by omega)
def bN (w:World) (b n:Nat) (f:Int->Option Int):Prop :=
 ∃ D:DataW Unit,w.ownsMap Tryz.prog 3 (plainElem Tryz.prog 3) b n D /\
  ∀ x,bn x->Maps.has D (.int .i64 x)=(f x).isSome/\D.atKey (.int .i64 x) (.lit (.int .i64 0))=.lit (.int .i64 ((f x).getD 0))
theorem bN.made (w:World):bN (w.alloc (.map #[] 0)) w.heap.size 0 (fun _=>none) :=
 ⟨.map [],World.ownsMap_made _ _ _ _,fun _ _=>⟨rfl,rfl⟩⟩
theorem bN.lt {w:World} {b n:Nat} {f:Int->Option Int} (h:bN w b n f):b<w.heap.size:=by obtain⟨D,h,_⟩:=h;exact h.lt
theorem bN.mono {w:World} {b n n':Nat} {f:Int->Option Int} (h:bN w b n f) (hn:n<=n'):bN w b n' f:=by obtain⟨D,h,g⟩:=h;exact⟨D,h.mono hn,g⟩
theorem bN.aM {w w':World} {own:List Nat} {b n:Nat} {f:Int->Option Int} (h:bN w b n f) (hc:ai own w w') (hb:b ∉ own):bN w' b n f:=by
 obtain⟨D,⟨es,clock,he,r⟩,g⟩:=h;exact⟨D,⟨es,clock,hc.heap he hb,r⟩,g⟩
theorem bN.kept {w w':World} {row:Option Nat} {b n:Nat} {f:Int->Option Int} (h:bN w b n f) (hc:w.grownBy w' row) (hb:some b≠row):bN w' b n f:=by
 obtain⟨D,h,g⟩:=h;exact⟨D,h.kept hc hb,g⟩
theorem bN.alloc {w:World} {b n:Nat} {f:Int->Option Int} (h:bN w b n f) (o:Obj):bN (w.alloc o) b n f:=h.kept (World.grownBy_alloc w o none) (by simp)
theorem bN.ne {w:World} {b n:Nat} {f:Int->Option Int} (h:bN w b n f) {k:Nat} {cs:Array Value} {t:TypeId} {r:Nat × Nat} (hk:w.heap[k]?=some (.cells cs t r)):k≠b:=by
 obtain⟨D,⟨es,clock,he,_⟩,_⟩:=h;intro e;rw[e,he] at hk;cases hk
theorem lX {x y:Int} (h:x≠y):(Lit.int .i64 x)≠.int .i64 y:=fun e=>h (by cases e;rfl)
section
variable (w : World) {ops : Array Oper} {rest : List Oper} {o : Oper} {a : Act} {Q : Exit -> Act -> World -> Prop}
theorem eT (hg:o.guard=none) (m x:Operand) (kU:o.op=Op.lookup 124 m x true) {b n:Nat} {f:Int->Option Int} (h:bN w b n f) (hm:a.eval m=.map (some b))
  {k v:Int} (hk:bn k) (hx:a.eval x=.int .i64 k) (hf:Hid (f k=some v)) (hK:wpList Tryz.prog ops Q rest (a.put o.dst (.tuple #[.int .i64 v,.bool true])) w):wpList Tryz.prog ops Q (o :: rest) a w:=by
 obtain⟨D,bL,hv⟩:=h;refine wpList_lookup_own_ok_int w hg m x _ kU _ _ .i64 bM Tryz.underlying124 Tryz.underlying3 (rq _) b n D hm bL _ _ hx (keyOf_int_mk Tryz.underlying3 hk) (fun c dN _=>?_);obtain⟨h1,h2⟩:=hv k hk;rw[hf.out] at h1 h2;rw[h2] at dN;cases dN;rw[h1];exact hK
theorem dw (hg:o.guard=none) (m x:Operand) (kU:o.op=Op.lookup 124 m x true) {b n:Nat} {f:Int->Option Int} (h:bN w b n f) (hm:a.eval m=.map (some b))
  {k:Int} (hk:bn k) (hx:a.eval x=.int .i64 k) (hf:Hid (f k=none)) (hK:wpList Tryz.prog ops Q rest (a.put o.dst (.tuple #[.int .i64 0,.bool false])) w):wpList Tryz.prog ops Q (o :: rest) a w:=by
 obtain⟨D,bL,hv⟩:=h;refine wpList_lookup_own_ok_int w hg m x _ kU _ _ .i64 bM Tryz.underlying124 Tryz.underlying3 (rq _) b n D hm bL _ _ hx (keyOf_int_mk Tryz.underlying3 hk) (fun c dN _=>?_);obtain⟨h1,h2⟩:=hv k hk;rw[hf.out] at h1 h2;rw[h2] at dN;cases dN;rw[h1];exact hK
theorem kd (hg:o.guard=none) (m x:Operand) (kU:o.op=Op.lookup 124 m x false) {b n:Nat} {f:Int->Option Int} (h:bN w b n f) (hm:a.eval m=.map (some b))
  {k:Int} (hk:bn k) (hx:a.eval x=.int .i64 k) {v:Int} (hf:Hid ((f k).getD 0=v)) (hK:wpList Tryz.prog ops Q rest (a.put o.dst (.int .i64 v)) w):wpList Tryz.prog ops Q (o :: rest) a w:=by
 obtain⟨D,bL,hv⟩:=h;refine wpList_lookup_own_int w hg m x _ kU _ _ .i64 bM Tryz.underlying124 Tryz.underlying3 (rq _) b n D hm bL _ _ hx (keyOf_int_mk Tryz.underlying3 hk) (fun c dN _=>?_);obtain⟨h1,h2⟩:=hv k hk;rw[h2,hf.out] at dN;cases dN;exact hK
theorem iG (hg:o.guard=none) (m x u:Operand) (kU:o.op=Op.mapUpdate 124 m x u) {b n:Nat} {f:Int->Option Int} (h:bN w b n f) (hn:n<maxLen) (hm:a.eval m=.map (some b))
  {k v:Int} (hk:bn k) (hv:bn v) (hx:a.eval x=.int .i64 k) (hu:a.eval u=.int .i64 v)
  (hK:∀ w',bN w' b (n+1) (fun y=>if y=k then some v else f y)->w.grownBy w' (some b)->wpList Tryz.prog ops Q rest (a.put o.dst undef) w'):wpList Tryz.prog ops Q (o :: rest) a w:=by
 obtain⟨D,bL,hD⟩:=h;refine wpList_mapUpdate_own w hg m x u _ kU _ _ bM Tryz.underlying124 _ b n D hm bL hn _ _ _ hx hu (keyOf_int_mk Tryz.underlying3 hk) _ [] (plainElem_int Tryz.underlying3 hv) (fun w' h1 h2=>hK w' ⟨_,h1,fun y hy=>?_⟩ h2);by_cases e:y=k
 ·subst e
  have qN:=bM.key (keyOf_int_mk Tryz.underlying3 hk);rw[has_put_same bL.isMap qN,atKey_put_same bL.isMap qN];simp
 rw[has_put_other (lX e),atKey_put_other (lX e)];simp only[if_neg e];exact hD y hy
end
def aJ (w:World) (v:Value) (l:List Int):Prop :=
 ∃ ao cap,v=.slice ao l.length cap/\(∀ x∈l,bn x)/\l.length<=9223372036854775807/\(l≠[]->∃ b off,ao=some ⟨b,off,none⟩/\∀ i,i<l.length->w.cell? ⟨b,off+i,none⟩=some (.int .i64 (l.getD i 0)))
theorem aJ.nil (w:World):aJ w (.slice none 0 0) []:=⟨none,0,rfl,by simp,by simp,by simp⟩
theorem aJ.aM {w w':World} {v:Value} {l:List Int} {own:List Nat} (h:aJ w v l) (hc:ai own w w') (hn:∀ b n c,v=.slice (some b) n c->b.block ∉ own):aJ w' v l:=by
 obtain⟨ao,cap,rfl,h1,h2,h3⟩:=h;refine⟨ao,cap,rfl,h1,h2,fun hl=>?_⟩;obtain⟨b,off,rfl,h4⟩:=h3 hl;exact⟨b,off,rfl,fun i hi=>hc.cell (h4 i hi) (show b ∉ own from hn ⟨b,off,none⟩ _ _ rfl)⟩
theorem aJ.fresh {w w':World} {v:Value} {l:List Int} (h:aJ w v l) (hc:ai [] w w'):aJ w' v l:=h.aM hc (by simp)
structure pD (t e:TypeId) (z:Value) (size bytes:Nat):Prop where
 ht:Tryz.prog.underlying t=some (.slice e)
 hi:(Tryz.prog.info? e).map (fun i=>(i.zero,i.size,i.bytes))=some (some z,size,bytes)
 hz:z.cells.size=size
 h0:0<size
 hb:bytes<=1024
theorem cJ:pD 25 3 (.int .i64 0) 1 8:=⟨Tryz.underlying25,by kernel_rfl,rfl,by decide,by decide⟩
theorem qS:pD 30 25 (.slice none 0 0) 1 24:=⟨Tryz.underlying30,by kernel_rfl,rfl,by decide,by decide⟩
theorem rM {t e:TypeId} {z:Value} {size bytes:Nat} (E:pD t e z size bytes) {w0 w:World} {B:Nat} {v:Value} {n:Nat} {xs:List Value} (bL:w0.ownsRow B e size v n xs) (hB:B<=w0.heap.size) {cs:Array Value} (jQ:cs.size=size) (h1:∀ u∈cs.toList,u.oneCell'=true) (hn:n<68719476736)
  (hw:w=w0.alloc (.cells cs e)\/w=(w0.alloc (.cells cs e)).drew) (ty:TypeId) :
  ∃ g cap w',(Builtin.append_ #[t,t] ty #[v,.slice (some ⟨w0.heap.size,0,none⟩) 1 1]).run Tryz.prog w=.ok (.slice (some ⟨g,0,none⟩) (n+1) cap) w' /\
   w'.ownsRow B e size (.slice (some ⟨g,0,none⟩) (n+1) cap) (n+1) (xs++cs.toList)/\ai v.ownBlock.toList w0 w'/\(v.ownBlock=some g\/w0.heap.size<=g):=by
 have afC:w.ownsRow B e size v n xs:=by rcases hw with rfl | rfl;exact bL.alloc _;exact bL.alloc _
 have dI:ai [] w0 w:=by rcases hw with rfl | rfl;exact (ai.refl _ _).alloc _;exact ((ai.refl _ _).alloc _).drew
 have di:w.heap.size=w0.heap.size+1:=by rcases hw with rfl | rfl <;> simp[World.drew]
 have tJ:∀ j u,cs.toList[j]?=some u->w.cell? ((⟨w0.heap.size,0,none⟩:Addr).add j)=some u:=by
  intro j u hu;have iw:(⟨w0.heap.size,0,none⟩:Addr).add j=⟨w0.heap.size,j,none⟩:=by unfold Addr.add;split <;> simp_all
  have hblk:w.heap[w0.heap.size]?=some (.cells cs e (0,0)):=by rcases hw with rfl | rfl <;> exact heap_alloc_new _ _
  rw[iw,cell_of_row w _ j cs e (0,0) hblk];simpa using hu
 obtain⟨i0,hi,Dl,jZ,pF⟩:=info_parts E.hi;have hb:=E.hb;obtain⟨v',w',hr,h2,h3,h4,h5⟩:=run_append_own_at (P:=Tryz.prog) w B t ty e i0 z size bytes E.ht hi Dl jZ pF E.hz E.h0 v n xs afC ⟨w0.heap.size,0,none⟩ 1 1 cs.toList (by simpa using jQ) tJ h1 (by unfold maxLen;omega) (Qs (Nat.mul_le_mul_left _ hb) (by omega)) (by omega);obtain⟨g,cap,rfl⟩:∃ g cap,v'=.slice (some ⟨g,0,none⟩) (n+1) cap:=by
  rcases h2.2 with ⟨_,e⟩ | ⟨g,cap,_,rfl,_⟩
  ·omega
  exact⟨_,_,rfl⟩
 refine⟨g,cap,w',hr,h2,(dI.mono (by simp)).grown h3 (fun j hj=>QD (by rw[hj];simp)),?_⟩;rcases h5 with h4 | h4
 ·exact QD h4.symm
 simp only[Value.ownBlock,Option.some.injEq] at h4;exact Or.inr (by omega)
section
variable {ops : Array Oper} {rest : List Oper} {o : Oper} {a : Act} {Q : Exit -> Act -> World -> Prop}
theorem qA {t e:TypeId} {z:Value} {size bytes:Nat} (E:pD t e z size bytes) {w0:World} (hg:o.guard=none) (s x:Operand) (ho:o.op=.call { callee:=.builtin .append,args:=#[s,x],argTypes:=#[t,t] })
  {B:Nat} {v:Value} {n m:Nat} {xs:List Value} {cs:Array Value} (hs:a.eval s=v) (hx:a.eval x=.slice (some ⟨m,0,none⟩) 1 1) (hm:m=w0.heap.size) (bL:w0.ownsRow B e size v n xs) (hB:B<=w0.heap.size) (jQ:cs.size=size) (h1:∀ u∈cs.toList,u.oneCell'=true) (hn:n<68719476736)
  (hK:∀ g cap w',w'.ownsRow B e size (.slice (some ⟨g,0,none⟩) (n+1) cap) (n+1) (xs++cs.toList)->ai v.ownBlock.toList w0 w'->(v.ownBlock=some g\/w0.heap.size<=g) ->
   wpList Tryz.prog ops Q rest (a.put o.dst (.slice (some ⟨g,0,none⟩) (n+1) cap)) w'):wpList Tryz.prog ops Q (o :: rest) a (w0.alloc (.cells cs e)):=by
 subst hm;refine wpList_plain hg fun K uM=>?_;obtain⟨g,cap,w',hr,r1,r2,r3⟩:=rM E bL hB jQ h1 hn (QD rfl) o.type;unfold Oper.wp execOp;simp only[ho,resolve,invoke,builtin,Sem.run_bind,Sem.run_pure,Result.andThen_ok,Qw,Qe,QC,hs,hx,hr];exact uM _ _ (hK g cap w' r1 r2 r3)
theorem PC {t e:TypeId} {z:Value} {size bytes:Nat} (E:pD t e z size bytes) {w0 w:World} {K:Act->World->Prop} {F:Prop} (hg:o.guard=none) (s x:Operand) (ho:o.op=.call { callee:=.builtin .append,args:=#[s,x],argTypes:=#[t,t] })
  {B:Nat} {v:Value} {n m:Nat} {xs:List Value} {cs:Array Value} (hs:a.eval s=v) (hx:a.eval x=.slice (some ⟨m,0,none⟩) 1 1) (hm:m=w0.heap.size) (bL:w0.ownsRow B e size v n xs) (hB:B<=w0.heap.size) (jQ:cs.size=size) (h1:∀ u∈cs.toList,u.oneCell'=true) (hn:n<68719476736)
  (hw:w=w0.alloc (.cells cs e)\/w=(w0.alloc (.cells cs e)).drew)
  (hK:∀ g cap w',w'.ownsRow B e size (.slice (some ⟨g,0,none⟩) (n+1) cap) (n+1) (xs++cs.toList)->ai v.ownBlock.toList w0 w'->(v.ownBlock=some g\/w0.heap.size<=g) ->
   K (a.put o.dst (.slice (some ⟨g,0,none⟩) (n+1) cap)) w'):if Region.wanted o (yielded ops a.tmps)=true then Oper.wp Tryz.prog o a w K Q else F:=by
 subst hm;have hw':Region.wanted o (yielded ops a.tmps)=true:=by simp[Region.wanted,hg]
 rw[if_pos hw'];obtain⟨g,cap,w',hr,r1,r2,r3⟩:=rM E bL hB jQ h1 hn hw o.type;unfold Oper.wp execOp;simp only[ho,resolve,invoke,builtin,Sem.run_bind,Sem.run_pure,Result.andThen_ok,Qw,Qe,QC,hs,hx,hr];exact hK g cap w' r1 r2 r3
theorem wO {w0:World} (hg:o.guard=none) (s x:Operand) (ho:o.op=.call { callee:=.builtin .append,args:=#[s,x],argTypes:=#[25,25] })
  {v:Value} {n m:Nat} {xs:List Value} {k:Int} {B:Nat} (hs:a.eval s=v) (hx:a.eval x=.slice (some ⟨m,0,none⟩) 1 1) (hm:m=w0.heap.size) (bL:w0.ownsRow B 3 1 v n xs) (hB:B<=w0.heap.size) (hn:n<68719476736)
  (hK:∀ g cap w',w'.ownsRow B 3 1 (.slice (some ⟨g,0,none⟩) (n+1) cap) (n+1) (xs++[.int .i64 k])->ai v.ownBlock.toList w0 w'->(v.ownBlock=some g\/w0.heap.size<=g) ->
   wpList Tryz.prog ops Q rest (a.put o.dst (.slice (some ⟨g,0,none⟩) (n+1) cap)) w'):wpList Tryz.prog ops Q (o :: rest) a (w0.alloc (.cells #[.int .i64 k] 3)) :=
 qA cJ hg s x ho hs hx hm bL hB rfl (by intro u hu;simp at hu;subst hu;rfl) hn hK
theorem Jv {t e:TypeId} {z:Value} {size bytes:Nat} (E:pD t e z size bytes) {w:World} (hg:o.guard=none) (l c:Operand) (kU:o.op=Op.makeSlice t l c) {B n:Nat} (hl:a.eval l=.int .i64 n) (hc:a.eval c=.int .i64 n) (hB:B<=w.heap.size) (hn:n<68719476736)
  (hK:∀ w',w'.ownsRow B e size (.slice (some ⟨w.heap.size,0,none⟩) n n) n (madeCells z.cells (n*size)).toList->ai [] w w'->wpList Tryz.prog ops Q rest (a.put o.dst (.slice (some ⟨w.heap.size,0,none⟩) n n)) w') :
  wpList Tryz.prog ops Q (o :: rest) a w:=by
 obtain⟨i0,hi,Dl,jZ,pF⟩:=info_parts E.hi;have hb:=E.hb;refine wpList_make_full w hg l c t kU B e i0 z size E.ht hi Dl jZ .i64 .i64 _ _ n hl hc rfl rfl ?_ (by unfold maxLen;omega) hB (fun w' h1 h2=>hK w' h1 ((ai.refl _ _).grown h2 (by simp)));rw[pF];exact Qs (Nat.mul_le_mul_right _ hb) (by omega)
end
theorem Z1 {α:Type} {xs:List α} {i:Nat} (h:i<xs.toArray.size):xs.toArray[i]'h=xs[i]'(by simpa using h):=rfl
theorem Z2 {α:Type} {a:α} {xs:List α} {h:0<(a :: xs).length}:(a :: xs)[0]'h=a:=rfl
theorem Z3 {α:Type} {a:α} {xs:List α} {i:Nat} {h:i+1<(a :: xs).length}:(a :: xs)[i+1]'h=xs[i]'(Nat.lt_of_succ_lt_succ h):=rfl
theorem Z4 {α:Type} {l:List α} {i:Nat} {a:α}:l.toArray.setIfInBounds i a=(l.set i a).toArray:=List.setIfInBounds_toArray ..
theorem Z5 {α:Type} {x:α} {xs:List α} {a:α}:(x :: xs).set 0 a=a :: xs:=rfl
theorem lh {p:Prop} (h:p):RowKit.Hid p:=h
theorem Z6 {α:Type} {x:α} {xs:List α} {n:Nat} {a:α}:(x :: xs).set (n+1) a=x :: xs.set n a:=rfl
def dU (w:World) (v:Value) (g:Plain.Gr):Prop :=
 ∃ eo cap,v=.agg #[.int .i64 g.n,.slice eo g.e.length cap]/\bn g.n/\g.e.length<=9223372036854775807 /\
  (∀ i,i<g.e.length->bn (g.ends i).1/\bn (g.ends i).2) /\
  (∀ i,i<g.e.length->∃ b off,eo=some ⟨b,off,none⟩/\w.cell? ⟨b,off+i*2,none⟩=some (.int .i64 (g.ends i).1)/\w.cell? ⟨b,off+i*2+1,none⟩=some (.int .i64 (g.ends i).2))
def gD (w:World) (v:Value) (p:Plain.Pt):Prop:=∃ v1 v2,v=.agg #[v1,v2]/\aJ w v1 p.v/\aJ w v2 p.e
def nX (v:Value):Prop:=∃ ao n cap,v=.slice ao n cap/\n<=cap/\cap<=9223372036854775807
def eC (w:World) (v:Value) (ll:List (List Int)):Prop :=
 ∃ ao cap,v=.slice ao ll.length cap/\ll.length<=9223372036854775807 /\
  ∀ i,i<ll.length->∃ b off u,ao=some ⟨b,off,none⟩/\w.cell? ⟨b,off+i,none⟩=some u/\nX u/\aJ w u (ll.getD i [])
theorem dU.fresh {w w':World} {v:Value} {g:Plain.Gr} (h:dU w v g) (hc:ai [] w w'):dU w' v g:=by
 obtain⟨eo,cap,e,h1,h2,h3,h4⟩:=h;refine⟨eo,cap,e,h1,h2,h3,fun i hi=>?_⟩;obtain⟨b,off,e1,c1,c2⟩:=h4 i hi;exact⟨b,off,e1,hc.cell c1 (by simp),hc.cell c2 (by simp)⟩
theorem gD.fresh {w w':World} {v:Value} {p:Plain.Pt} (h:gD w v p) (hc:ai [] w w'):gD w' v p:=by
 obtain⟨v1,v2,e,h1,h2⟩:=h;exact⟨v1,v2,e,h1.fresh hc,h2.fresh hc⟩
theorem eC.fresh {w w':World} {v:Value} {ll:List (List Int)} (h:eC w v ll) (hc:ai [] w w'):eC w' v ll:=by
 obtain⟨ao,cap,e,h1,h2⟩:=h;refine⟨ao,cap,e,h1,fun i hi=>?_⟩;obtain⟨b,off,u,e1,c1,c2,c3⟩:=h2 i hi;exact⟨b,off,u,e1,hc.cell c1 (by simp),c2,c3.fresh hc⟩
end Go.Proofs.YtbkjljffnkdcjaaGreat
namespace Go.Proofs.YtbkjljffnkdcjaaGreat
structure St where
 all:List Int
 dp:List Nat
def pos (l:List Int) (x:Int):Option Int:=if x∈l then some ((l.idxOf x:Nat):Int) else none
theorem Om {l:List Int} {x:Int} (h:x∈l):pos l x=some ((l.idxOf x:Nat):Int):=if_pos h
theorem PA {l:List Int} {x:Int} (h:x ∉ l):pos l x=none:=if_neg h
theorem Oh {l:List Int} {x:Int} (h:x ∉ l):(fun y=>if y=x then some ((l.length:Nat):Int) else pos l y)=pos (l++[x]):=by
 funext y
 by_cases e:y=x
 ·subst e
  simp[pos,Qd,h]
 by_cases hy:y∈l
 ·simp[pos,e,hy,Qd]
 simp[pos,e,hy]
def St.put (s:St) (x:Int):St:=if x∈s.all then s else ⟨s.all++[x],s.dp++[s.all.length]⟩
def St.count (s:St):Nat:=(Qc s.dp.length).countP fun i=>s.dp.getD i 0==i
def St.hd (s:St) (i:Nat):Nat:=s.dp.getD i 0
def Up (up dp:List Nat):Prop:=up.length=dp.length/\∀ i,i<up.length->up.getD i 0<=i/\dp.getD i 0=if up.getD i 0=i then i else dp.getD (up.getD i 0) 0
theorem Up.le {up dp:List Nat} (h:Up up dp):∀ i,i<up.length->dp.getD i 0<=i/\up.getD (dp.getD i 0) 0=dp.getD i 0:=by
 intro i
 induction i using Nat.strongRecOn with
 | _ i ih =>
  intro hi;obtain⟨h1,h2⟩:=h.2 i hi;by_cases e:up.getD i 0=i
  ·rw[if_pos e] at h2
   rw[h2];exact⟨Nat.le_refl _,e⟩
  rw[if_neg e] at h2;have:=ih (up.getD i 0) (by omega) (by omega);rw[h2];exact⟨by omega,this.2⟩
theorem Up.fix {up dp:List Nat} (h:Up up dp) {i:Nat} (hi:i<up.length) (e:up.getD i 0=i):dp.getD i 0=i:=by
 have:=(h.2 i hi).2;rwa[if_pos e] at this
theorem Up.own {up dp:List Nat} (h:Up up dp) {i:Nat} (hi:i<up.length):dp.getD (dp.getD i 0) 0=dp.getD i 0:=by
 have:=h.le i hi;exact h.fix (by omega) this.2
theorem Up.next {up dp:List Nat} (h:Up up dp) {i:Nat} (hi:i<up.length):dp.getD (up.getD i 0) 0=dp.getD i 0:=by
 have:=(h.2 i hi).2;by_cases e:up.getD i 0=i
 ·rw[e]
 rw[if_neg e] at this;exact this.symm
theorem ye (l:List Nat) (i v j:Nat) (hi:i<l.length):(l.set i v).getD j 0=if j=i then v else l.getD j 0:=by
 by_cases e:j=i
 ·subst e;simp[hi]
 simp[Qb,List.getElem?_set_ne (Ne.symm e),e]
theorem Up.adW {up dp:List Nat} (h:Up up dp) {i:Nat} (hi:i<up.length) (e:up.getD i 0≠i):Up (up.set i (up.getD (up.getD i 0) 0)) dp:=by
 have h1:=(h.2 i hi).1;have h2:=(h.2 (up.getD i 0) (by omega)).1;refine⟨by simpa using h.1,fun j hj=>?_⟩;rw[ye _ _ _ _ hi];by_cases ej:j=i
 ·subst ej
  simp only[if_true];rw[if_neg (by omega),h.next (by omega),h.next hi];exact⟨by omega,rfl⟩
 rw[if_neg ej];exact h.2 j (by simpa using hj)
theorem Up.put {up dp:List Nat} (h:Up up dp):Up (up++[up.length]) (dp++[dp.length]):=by
 refine⟨by simp[h.1],fun i hi=>?_⟩;by_cases e:i=up.length
 ·subst e
  simp[h.1]
 have uT:i<up.length:=by simp at hi;omega
 have h1:=h.2 i uT;have e1:(up++[up.length]).getD i 0=up.getD i 0:=by simp only[Qb];rw[Qa uT]
 have e2:(dp++[dp.length]).getD i 0=dp.getD i 0:=by have:=h.1;simp only[Qb];rw[Qa (by omega)]
 have e3:(dp++[dp.length]).getD (up.getD i 0) 0=dp.getD (up.getD i 0) 0:=by have:=h.1;simp only[Qb];rw[Qa (by simpa[Qb] using (by omega:up.getD i 0<dp.length))]
 rw[e1,e2,e3];exact h1
def relabel (dp:List Nat) (i j:Nat):List Nat:=dp.map fun g=>if g=max i j then min i j else g
theorem getD_map (dp:List Nat) (f:Nat->Nat) (i:Nat) (hi:i<dp.length):(dp.map f).getD i 0=f (dp.getD i 0):=by simp[Qb,hi]
theorem Up.join {up dp:List Nat} (h:Up up dp) {i j:Nat} (hi:i<up.length) (hj:j<up.length) (ei:up.getD i 0=i) (ej:up.getD j 0=j) (ne:i≠j):Up (up.set (max i j) (min i j)) (relabel dp i j):=by
 have hl:=h.1;have hm:max i j<up.length:=by omega
 refine⟨by simp[relabel,h.1],fun k hk=>?_⟩;have hk':k<up.length:=by simpa using hk
 obtain⟨h1,h2⟩:=h.2 k hk';unfold relabel;rw[ye _ _ _ _ hm,getD_map _ _ _ (by omega)];have gi:=h.fix hi ei;have gj:=h.fix hj ej;by_cases e:k=max i j
 ·subst e
  simp only[if_true];have gm:dp.getD (max i j) 0=max i j:=by
   rcases Qj i j with q | q
   ·rw[Qx q];exact gj
   rw[QA q];exact gi
  have gn:dp.getD (min i j) 0=min i j:=by
   rcases Qj i j with q | q
   ·rw[QB q];exact gi
   rw[Qy q];exact gj
  rw[getD_map _ _ _ (by omega),gm,gn,if_pos rfl,if_neg (by omega),if_neg (by omega)];exact⟨by omega,rfl⟩
 rw[if_neg e,getD_map _ _ _ (by omega),h2];refine⟨h1,?_⟩;by_cases q:up.getD k 0=k
 ·rw[if_pos q,if_pos q,if_neg e]
 rw[if_neg q,if_neg q]
def St.join (s:St) (x y:Int):St :=
 let t:=(s.put x).put y
 ⟨t.all,relabel t.dp (t.hd (t.all.idxOf x)) (t.hd (t.all.idxOf y))⟩
def St.same (s:St) (x y:Int):Bool:=decide (x∈s.all)&&decide (y∈s.all)&&s.hd (s.all.idxOf x)==s.hd (s.all.idxOf y)
theorem sg (dp:List Nat) (i:Nat):relabel dp i i=dp:=by
 unfold relabel;rw[Qn (g:=id)]
 ·simp
 intro g _;simp only[Nat.max_self,Nat.min_self,id];split <;> omega
theorem St.jo {s:St} {x:Int} (h:x∈s.all):s.put x=s:=if_pos h
theorem St.eH {s:St} {x:Int} (h:x ∉ s.all):s.put x=⟨s.all++[x],s.dp++[s.all.length]⟩:=if_neg h
theorem St.MN {s:St} {x:Int} (h:x ∉ s.all) (hl:s.all.length=s.dp.length):(s.put x).count=s.count+1:=by
 rw[St.eH h];unfold St.count;simp only[List.length_append,Qv,List.length_nil,Nat.zero_add];rw[Qf,Qg]
 congr 1
 ·refine Qu (fun i hi=>?_)
  have uT:i<s.dp.length:=Qm.1 hi;simp only[Qb];rw[Qa uT]
 simp[hl]
theorem St.count_le (s:St):s.count<=s.dp.length:=by
 unfold St.count;have:=List.countP_le_length (p:=fun i=>s.dp.getD i 0==i) (l:=Qc s.dp.length);simpa using this
theorem nC (p q:Nat->Bool) (m:Nat) (hp:p m=true) (hq:q m=false) (h:∀ k,k≠m->p k=q k):∀ n,m<n->(Qc n).countP p=(Qc n).countP q+1
 | 0,hm=>by omega
 | n+1,hm=>by
  rw[Qf,Qg,Qg];by_cases e:m=n
  ·subst e
   have:(Qc m).countP p=(Qc m).countP q:=Qu (fun k hk=>by rw[h k (by have:=Qm.1 hk;omega)]);simp[this,hp,hq]
  have ih:=nC p q m hp hq h n (by omega);have:p n=q n:=h n (Ne.symm e);simp only[List.countP_singleton,this,ih];omega
theorem St.yP {all:List Int} {dp:List Nat} {i j:Nat} (hi:i<dp.length) (hj:j<dp.length) (ei:dp.getD i 0=i) (ej:dp.getD j 0=j) (ne:i≠j) :
  St.count ⟨all,dp⟩=St.count ⟨all,relabel dp i j⟩+1:=by
 have gm:dp.getD (max i j) 0=max i j:=by
  rcases Qj i j with q | q
  ·rw[Qx q];exact ej
  rw[QA q];exact ei
 have gn:dp.getD (min i j) 0=min i j:=by
  rcases Qj i j with q | q
  ·rw[QB q];exact ei
  rw[Qy q];exact ej
 unfold St.count;simp only[show (relabel dp i j).length=dp.length by simp[relabel]];refine nC _ _ (max i j) (by simp only[gm,beq_self_eq_true]) ?_ ?_ _ (by omega)
 ·simp only[relabel]
  rw[getD_map _ _ _ (by omega),gm,if_pos rfl];exact beq_eq_false_iff_ne.2 (by omega)
 intro k hk;by_cases hl:k<dp.length
 ·simp only[relabel]
  rw[getD_map _ _ _ hl];by_cases e:dp.getD k 0=max i j
  ·rw[e,if_pos rfl,beq_eq_false_iff_ne.2 (Ne.symm hk)]
   refine (beq_eq_false_iff_ne.2 (fun e2=>?_)).symm;rw[<-e2,gn] at e;omega
  rw[if_neg e]
 have e1:dp.getD k 0=0:=by simp[Qb,Nat.not_lt.1 hl]
 have e2:(relabel dp i j).getD k 0=0:=by simp[Qb,relabel,Nat.not_lt.1 hl]
 rw[e1,e2]
def St.CE (s:St) (x y:Int):Bool :=
 let t:=(s.put x).put y
 t.hd (t.all.idxOf x) != t.hd (t.all.idxOf y)
theorem St.lk (s:St) (x:Int):x∈(s.put x).all:=by
 by_cases h:x∈s.all
 ·rwa[St.jo h]
 rw[St.eH h];simp
theorem St.ku {s:St} {x:Int} (y:Int) (h:x∈s.all):x∈(s.put y).all:=by
 by_cases hy:y∈s.all
 ·rwa[St.jo hy]
 rw[St.eH hy];simp[h]
theorem St.mS {s:St} {x:Int} (y:Int) (h:x∈s.all):(s.put y).all.idxOf x=s.all.idxOf x:=by
 by_cases hy:y∈s.all
 ·rw[St.jo hy]
 rw[St.eH hy];simp[Qd,h]
theorem St.Bl (s:St) (x:Int):s.all.length<=(s.put x).all.length/\(s.put x).all.length<=s.all.length+1:=by
 by_cases h:x∈s.all
 ·rw[St.jo h];omega
 rw[St.eH h];simp
theorem St.PN (s:St) (x y:Int):s.CE x y=(((s.put x).put y).hd ((s.put x).all.idxOf x) != ((s.put x).put y).hd (((s.put x).put y).all.idxOf y)):=by
 unfold St.CE;rw[<-St.mS (s:=s.put x) y (s.lk x)]
theorem St.join_eq (s:St) (x y:Int):s.join x y=⟨((s.put x).put y).all,relabel ((s.put x).put y).dp (((s.put x).put y).hd ((s.put x).all.idxOf x)) (((s.put x).put y).hd (((s.put x).put y).all.idxOf y))⟩:=by
 unfold St.join;rw[<-St.mS (s:=s.put x) y (s.lk x)]
structure St.Ok (s:St):Prop where
 len:s.all.length=s.dp.length
 nodup:s.all.Nodup
 le:∀ i,i<s.dp.length->s.hd i<=i
 own:∀ i,i<s.dp.length->s.hd (s.hd i)=s.hd i
def St.cY (s:St) (k:Nat):List Nat:=(Qc k).filter fun i=>s.hd i==i
def St.row (s:St) (k h:Nat):List Int:=((Qc k).filter fun i=>s.hd i==h).map fun i=>s.all.getD i 0
def St.gr (s:St) (k:Nat):List (List Int):=(s.cY k).map (s.row k)
def St.groups (s:St):List (List Int):=s.gr s.all.length
theorem St.mZ (s:St) (k:Nat):s.cY (k+1)=if s.hd k=k then s.cY k++[k] else s.cY k:=by
 unfold St.cY;rw[Qf,Qq];by_cases h:s.hd k=k <;> simp[h]
theorem St.RJ (s:St) (k h:Nat):s.row (k+1) h=if s.hd k=h then s.row k h++[s.all.getD k 0] else s.row k h:=by
 unfold St.row;rw[Qf,Qq];by_cases e:s.hd k=h <;> simp[e]
theorem St.oQ {s:St} {k h:Nat}:h∈s.cY k↔h<k/\s.hd h=h:=by simp[St.cY]
theorem St.jN (s:St) (k:Nat):(s.cY k).Nodup:=Qo.filter _ List.nodup_range
def St.zz (s:St) (k:Nat):List (List Int):=if s.hd k=k then s.gr k++[[]] else s.gr k
def St.iE (s:St) (k:Nat):Nat:=(s.cY (k+1)).idxOf (s.hd k)
theorem St.BM {s:St} (hs:s.Ok) {k:Nat} (hk:k<s.dp.length):s.iE k<(s.cY (k+1)).length :=
 List.idxOf_lt_length_iff.2 (St.oQ.2 ⟨by have:=hs.le k hk;omega,hs.own k hk⟩)
theorem St.xz (s:St) (k:Nat):(s.zz k).length=(s.cY (k+1)).length:=by
 unfold St.zz;rw[s.mZ];by_cases h:s.hd k=k <;> simp[h,St.gr]
theorem St.NT {s:St} (hs:s.Ok) {k:Nat} (hk:k<s.dp.length):s.row k k=[]:=by
 unfold St.row;rw[List.map_eq_nil_iff,List.filter_eq_nil_iff];intro i hi;have uT:i<k:=Qm.1 hi;have:=hs.le i (by omega);simp;omega
theorem St.T7 {s:St} (hs:s.Ok) {k:Nat} (hk:k<s.dp.length):s.gr (k+1)=(s.zz k).set (s.iE k) ((s.zz k).getD (s.iE k) []++[s.all.getD k 0]):=by
 have hr:=St.BM hs hk;have ajG:s.zz k=(s.cY (k+1)).map (s.row k):=by
  unfold St.zz St.gr;rw[s.mZ];by_cases h:s.hd k=k
  ·rw[if_pos h,if_pos h,List.map_append,List.map_singleton,St.NT hs hk]
  rw[if_neg h,if_neg h]
 have fs:=s.jN (k+1);have FN:(s.cY (k+1))[s.iE k]'hr=s.hd k:=List.getElem_idxOf hr;unfold St.gr;rw[ajG];apply List.ext_getElem
 ·simp
 intro i h1 h2;simp only[List.length_map] at h1;rw[Qz,s.RJ];by_cases e:i=s.iE k
 ·subst e
  rw[List.getElem_set_self,if_pos FN.symm,FN];simp[Qb,hr,FN]
 rw[List.getElem_set_ne (Ne.symm e),Qz,if_neg];intro e1;apply e;have:(s.cY (k+1))[i]=(s.cY (k+1))[s.iE k]'hr:=by rw[FN];exact e1.symm
 exact (List.getElem_inj fs).1 this
theorem St.z8 {s:St} {k h:Nat} (hh:h<k) (e:s.hd h=h):(s.cY (k+1)).idxOf h=(s.cY k).idxOf h:=by
 rw[s.mZ];by_cases q:s.hd k=k
 ·rw[if_pos q,Qd,if_pos (St.oQ.2 ⟨hh,e⟩)]
 rw[if_neg q]
theorem St.Vj {s:St} {k:Nat} (e:s.hd k=k):(s.cY (k+1)).idxOf k=(s.cY k).length:=by
 rw[s.mZ,if_pos e,Qd,if_neg (fun h=>by have:=(St.oQ.1 h).1;omega)];simp
theorem St.RQ (s:St) (k:Nat):(s.cY k).length<=k:=by
 have:=Ql (fun i=>s.hd i==i) (Qc k);simpa[St.cY] using this
theorem St.Yu (s:St) (k h:Nat):(s.row k h).length<=k:=by
 have:=Ql (fun i=>s.hd i==h) (Qc k);simpa[St.row] using this
theorem St.OQ (s:St) (k q:Nat):((s.gr k).getD q []).length<=k:=by
 unfold St.gr;simp only[Qb,List.getElem?_map];cases (s.cY k)[q]? with
 | none=>simp
 | some h=>exact s.Yu k h
theorem St.U3 (s:St) (k q:Nat):((s.zz k).getD q []).length<=k:=by
 unfold St.zz;by_cases h:s.hd k=k
 ·rw[if_pos h]
  have:=s.OQ k q;by_cases e:q<(s.gr k).length
  ·simp only[Qb] at this ⊢
   rwa[Qa e]
  simp only[Qb];rw[List.getElem?_append_right (by omega)];cases hq:[([]:List Int)][q - (s.gr k).length]? with
  | none=>simp
  | some l =>
   have:=List.mem_of_getElem? hq;simp at this;subst this;simp
 rw[if_neg h];exact s.OQ k q
theorem ai.t{o o':List Nat}{a b c:World}(h:ai o a b)(k:ai o' b c)(hs:∀j∈o',j∈o\/a.heap.size<=j:=by simp):ai o a c:=h.trans k hs
theorem ai.c{o:List Nat}{a w:World}(h:ai o a w){p:Addr}{v:Value}(hc:a.cell? p=some v)(hn:p.block∉o:=by simp):w.cell? p=some v:=h.cell hc hn
end Go.Proofs.YtbkjljffnkdcjaaGreat
