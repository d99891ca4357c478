/- block's finder in memory; finder.take: contract. Conditions: what each law says. -/
import Derived.Test.YtbkjljffnkdcjaaGreatD9Dfs3
open Go.Value renaming ownBlock→Qa,slice→Qn
open List renaming length_drop→Qb,filter_cons_of_pos→Qc,filter_cons_of_neg→Qd,mem_map→Qh,range→Qi,mem_singleton→Qj,getD→Qk,length_take→Ql,any_eq_true→Qm,nodup_cons→Qp
open Or renaming inl→Qe,inr→Qq
open Classical renaming byContradiction→Qf
open Nat renaming le_refl→Qg,min_eq_left→Qo
open Go.Act renaming put→Qr
open Option renaming some→Qs
namespace Go.Proofs.YtbkjljffnkdcjaaGreat
open Go.RowKit Go.Maps
namespace Plain
def yF (g:Gr) (p:Pt) (s:dG):Nat:=((p.v.filter fun u=>decide (s.met u=0)).map fun u=>(a8 g p u).length+1).sum
end Plain
theorem ax.cut {w:World} {B g n c i:Nat} {l:List Int} (h:ax w B (.slice (.some ⟨g,0,none⟩) n c) l) (hi:i<=l.length):ax w B (.slice (.some ⟨g,0,none⟩) i c) (l.take i):=by
 have hl:(l.take i).length=i:=by rw[Ql];omega
 refine⟨⟨by rw[hl];unfold _root_.Go.Proofs.YtbkjljffnkdcjaaGreat.ints;rw[List.length_map,hl];omega,?_⟩,fun x hx=>h.2.1 x (List.mem_of_mem_take hx),by have:=h.2.2;omega⟩;rw[hl];rcases h.1.2 with ⟨e,-⟩ | ⟨g',cap,cur,e,hg,hh,hn,hm,hs,ht⟩
 ·cases e
 simp only[Qn.injEq,Qs.injEq,Addr.mk.injEq,and_true] at e;obtain⟨rfl,-,rfl⟩:=e;refine Qq ⟨g,c,cur,rfl,hg,hh,by omega,hm,hs,?_⟩;rw[Nat.mul_one] at ht ⊢;have h2:cur.toList.take i=(cur.toList.take l.length).take i:=by rw[List.take_take,Qo hi]
 rw[h2,ht];unfold _root_.Go.Proofs.YtbkjljffnkdcjaaGreat.ints;rw[List.map_take]
def jT (w:World) (b n:Nat) (f:Int->Int):Prop:=ax w 0 (.slice (some ⟨b,0,none⟩) n n) ((Qi n).map fun i:Nat=>f i)
theorem ZM (n:Nat) (f:Int->Int) {i:Nat} (hi:i<n):((Qi n).map fun i:Nat=>f i).getD i 0=f i:=by simp[Qk,hi]
theorem jT.cell {w:World} {b n:Nat} {f:Int->Int} (h:jT w b n f) {v:Nat} (hv:v<n):w.cell? ⟨b,v,none⟩=some (.int .i64 (f v)):=by
 obtain⟨g,e,hc⟩:=ax.some h (by simp;omega);cases e;rw[hc v (by simpa using hv),ZM n f hv]
theorem jT.free {w:World} {b n:Nat} {f:Int->Int} (h:jT w b n f) (hn:0<n) (i:Nat):w.frozen? ⟨b,i,none⟩=false:=ax.free h (by simpa using hn) i
theorem jT.i64 {w:World} {b n:Nat} {f:Int->Int} (h:jT w b n f) {v:Nat} (hv:v<n):bn (f v):=h.2.1 _ (Qh.2 ⟨v,List.mem_range.2 hv,rfl⟩)
theorem jT.aM {w w':World} {own:List Nat} {b n:Nat} {f:Int->Int} (h:jT w b n f) (hc:ai own w w') (hb:b ∉ own):jT w' b n f:=ax.aM h hc (fun j hj=>by
 have h1:j∈[b]:=hj;rw[Qj.1 h1];exact hb)
theorem jT.set {w:World} {b n:Nat} {f:Int->Int} (h:jT w b n f) {v:Nat} (_hv:v<n) {x:Int} (hx:bn x):jT (w.setCell ⟨b,v,none⟩ (.int .i64 x)) b n (Plain.pS f v x):=by
 have:=ax.set h v x hx;unfold jT;have e:((Qi n).map fun i:Nat=>f i).set v x=(Qi n).map fun i:Nat=>Plain.pS f v x i:=by
  refine List.ext_getElem (by simp) fun i h1 h2=>?_;rw[List.getElem_set];simp only[List.getElem_map,List.getElem_range];unfold Plain.pS;by_cases q:v=i
  ·rw[if_pos q,if_pos (by omega)]
  rw[if_neg q,if_neg (by omega)]
 rwa[e] at this
theorem jT.kind {w:World} {b n:Nat} {f:Int->Int} (h:jT w b n f):∃ cs,w.heap[b]?=some (.cells cs 3 (0,0)):=by
 rcases h.1.2 with ⟨e,-⟩ | ⟨g',cap,cur,e,-,hh,-⟩
 ·cases e
 simp only[Qn.injEq,Qs.injEq,Addr.mk.injEq,and_true] at e;obtain⟨rfl,-⟩:=e;exact⟨cur,hh⟩
def Rel (w:World) (B:Nat) (ev:Value) (F:Int->Option Value) (bl:List (List Int)):Prop :=
 (∀ l∈bl,∃ v,F (l.getD 0 0)=some v/\ax w B v l/\∀ b,v.ownBlock=some b->ev.ownBlock≠some b)/\∀ k v,F k=some v->∃ l∈bl,l.getD 0 0=k
theorem Rel.put {w:World} {B:Nat} {ev v:Value} {F:Int->Option Value} {bl:List (List Int)} (h:Rel w B ev F bl) {l:List Int} (hv:ax w B v l) (ho:∀ b,v.ownBlock=some b->ev.ownBlock≠some b):Rel w B ev (fun y=>if y=l.getD 0 0 then some v else F y) (Plain.lG l bl):=by
 have cV:∀ m,m∈Plain.lG l bl->m=l\/(m∈bl/\m.getD 0 0≠l.getD 0 0):=fun m hm=>by
  unfold Plain.lG at hm;split at hm
  ·obtain⟨k,hk,e⟩:=Qh.1 hm
   by_cases q:k.getD 0 0=l.getD 0 0
   ·rw[if_pos q] at e;exact Qe e.symm
   rw[if_neg q] at e;rw[<-e];exact Qq ⟨hk,q⟩
  rename_i hn;rcases List.mem_append.1 hm with q | q
  ·refine Qq ⟨q,fun r=>hn (Qm.2 ⟨m,q,decide_eq_true r⟩)⟩
  exact Qe (Qj.1 q)
 have hl:l∈Plain.lG l bl:=by
  unfold Plain.lG;split
  ·rename_i hy
   obtain⟨m,hm,e⟩:=Qm.1 hy;exact Qh.2 ⟨m,hm,if_pos (of_decide_eq_true e)⟩
  simp
 have abH:∀ m∈bl,m.getD 0 0≠l.getD 0 0->m∈Plain.lG l bl:=fun m hm q=>by
  unfold Plain.lG;split
  ·exact Qh.2 ⟨m,hm,if_neg q⟩
  exact List.mem_append_left _ hm
 refine⟨fun m hm=>?_,fun k u hk=>?_⟩
 ·rcases cV m hm with q | ⟨q,r⟩
  ·rw[q];exact⟨v,if_pos rfl,hv,ho⟩
  obtain⟨u,h1,h2,h3⟩:=h.1 m q;exact⟨u,by simp only[if_neg r];exact h1,h2,h3⟩
 by_cases q:k=l.getD 0 0
 ·exact⟨l,hl,q.symm⟩
 simp only[if_neg q] at hk;obtain⟨m,hm,e⟩:=h.2 k u hk;exact⟨m,abH m hm (by rw[e];exact q),e⟩
structure FK where
 w0:World
 pb:Nat
 mb:Nat
 lb:Nat
 mp:Nat
 n:Nat
 gE:Value
 dv:Value
def FK.own (k:FK):List Nat:=[k.pb,k.mb,k.lb,k.mp]
structure dk (k:FK) (g:Plain.Gr) (w:World) (s:Plain.dG) (ev:Value) (m:Nat) (F:Int->Option Value):Prop where
 row:w.heap[k.pb]?=some (.cells #[.int .i64 g.n,k.gE,k.dv,.slice (some ⟨k.mb,0,none⟩) k.n k.n,.slice (some ⟨k.lb,0,none⟩) k.n k.n,.int .i64 s.dK,ev,.map (some k.mp)] 103 (0,0))
 met:jT w k.mb k.n s.met
 low:jT w k.lb k.n s.low
 ed:ax w k.w0.heap.size ev s.ed
 map:jq w k.mp m F
 rel:Rel w k.w0.heap.size ev F s.bl
 aM:ai k.own k.w0 w
def Fin (k:FK) (g:Plain.Gr) (p:Plain.Pt) (w:World) (s:Plain.dG) (r:Nat):Prop:=∃ ev m F,dk k g w s ev m F/\m+s.ed.length+Plain.yF g p s+r<=100000/\s.dK+Plain.yF g p s<=100000
structure FK.Ok (k:FK):Prop where
 lt:∀ j∈k.own,j<k.w0.heap.size
 ml:k.mb≠k.lb
theorem dk.eight {k:FK} {g:Plain.Gr} {w:World} {s:Plain.dG} {ev:Value} {m:Nat} {F:Int->Option Value} (h:dk k g w s ev m F) :
  w.cell? ⟨k.pb,0,none⟩=some (.int .i64 g.n)/\w.cell? ⟨k.pb,1,none⟩=some k.gE/\w.cell? ⟨k.pb,2,none⟩=some k.dv/\w.cell? ⟨k.pb,3,none⟩=some (.slice (some ⟨k.mb,0,none⟩) k.n k.n)/\w.cell? ⟨k.pb,4,none⟩=some (.slice (some ⟨k.lb,0,none⟩) k.n k.n) /\
   w.cell? ⟨k.pb,5,none⟩=some (.int .i64 s.dK)/\w.cell? ⟨k.pb,6,none⟩=some ev/\w.cell? ⟨k.pb,7,none⟩=some (.map (some k.mp)) :=
 ⟨(cell_of_row _ _ 0 _ _ _ h.row).trans rfl,(cell_of_row _ _ 1 _ _ _ h.row).trans rfl,(cell_of_row _ _ 2 _ _ _ h.row).trans rfl,(cell_of_row _ _ 3 _ _ _ h.row).trans rfl,(cell_of_row _ _ 4 _ _ _ h.row).trans rfl,(cell_of_row _ _ 5 _ _ _ h.row).trans rfl,(cell_of_row _ _ 6 _ _ _ h.row).trans rfl,(cell_of_row _ _ 7 _ _ _ h.row).trans rfl⟩
theorem dk.free {k:FK} {g:Plain.Gr} {w:World} {s:Plain.dG} {ev:Value} {m:Nat} {F:Int->Option Value} (h:dk k g w s ev m F) (i:Nat):w.frozen? ⟨k.pb,i,none⟩=false:=bJ h.row i
theorem dk.ne {k:FK} {g:Plain.Gr} {w:World} {s:Plain.dG} {ev:Value} {m:Nat} {F:Int->Option Value} (h:dk k g w s ev m F):k.pb≠k.mb/\k.pb≠k.lb/\k.pb≠k.mp/\k.mb≠k.mp/\k.lb≠k.mp:=by
 obtain⟨c1,h1⟩:=h.met.kind;obtain⟨c2,h2⟩:=h.low.kind;refine⟨fun e=>?_,fun e=>?_,h.map.ne h.row,h.map.ne h1,h.map.ne h2⟩
 ·have:=h.row
  rw[e,h1] at this;simp at this
 have:=h.row;rw[e,h2] at this;simp at this
theorem Rel.aM {w w':World} {B:Nat} {ev:Value} {F:Int->Option Value} {bl:List (List Int)} {own:List Nat} (h:Rel w B ev F bl) (hc:ai own w w') (ho:∀ j∈own,j<B):Rel w' B ev F bl :=
 ⟨fun l hl=>by
  obtain⟨v,h1,h2,h3⟩:=h.1 l hl;exact⟨v,h1,h2.aM hc (fun b hb q=>by
   have:=(h2.low b hb).1;have:=ho b q;omega),h3⟩,h.2⟩
section
variable {k : FK} {g : Plain.Gr} {w w' : World} {s : Plain.dG} {ev : Value} {m : Nat} {F : Int -> Option Value}
theorem dk.fresh (h:dk k g w s ev m F) (hc:ai [] w w'):dk k g w' s ev m F :=
 ⟨hc.heap h.row (by simp),h.met.aM hc (by simp),h.low.aM hc (by simp),h.ed.aM hc (by simp),h.map.aM hc (by simp),h.rel.aM hc (by simp),h.aM.t hc⟩
theorem FK.Ok.out (hk:k.Ok) {v:Value} {l:List Int} (h:ax w k.w0.heap.size v l):∀ b∈v.ownBlock.toList,∀ own:List Nat,(∀ j∈own,j∈k.own)->b ∉ own:=fun b hb own ho q=>by
 have:=(h.low b hb).1;have:=hk.lt b (ho b q);omega
theorem dk.ah (hk:k.Ok) (h:dk k g w s ev m F) {ev':Value} {ed':List Int} (hr:ax w k.w0.heap.size ev' ed') (ho:∀ l∈s.bl,∀ v,F (l.getD 0 0)=some v->∀ b,v.ownBlock=some b->ev'.ownBlock≠some b) :
  dk k g (w.setCell ⟨k.pb,6,none⟩ ev') { s with ed:=ed' } ev' m F:=by
 have hn:=h.ne;have hc:ai [k.pb] w (w.setCell ⟨k.pb,6,none⟩ ev'):=(ai.refl [k.pb] w).setCell (Qe (by simp)) _;have hs:∀ j∈[k.pb],j∈k.own:=by simp[FK.own]
 refine⟨by simpa using heap_setCell_same h.row 6 ev',h.met.aM hc (by simpa using fun e=>hn.1 e.symm),h.low.aM hc (by simpa using fun e=>hn.2.1 e.symm),hr.aM hc (fun b hb=>hk.out hr b hb _ hs),h.map.aM hc (by simpa using fun e=>hn.2.2.1 e.symm),?_,h.aM.trans hc (fun j hj=>Qe (hs j hj))⟩;have:=h.rel.aM hc (fun j hj=>hk.lt j (hs j hj));refine⟨fun l hl=>?_,this.2⟩;obtain⟨v,h1,h2,-⟩:=this.1 l hl;exact⟨v,h1,h2,ho l hl v h1⟩
theorem dk.count (hk:k.Ok) (h:dk k g w s ev m F) (x:Int):dk k g (w.setCell ⟨k.pb,5,none⟩ (.int .i64 x)) { s with dK:=x } ev m F:=by
 have hn:=h.ne;have hc:ai [k.pb] w (w.setCell ⟨k.pb,5,none⟩ (.int .i64 x)):=(ai.refl [k.pb] w).setCell (Qe (by simp)) _;have hs:∀ j∈[k.pb],j∈k.own:=by simp[FK.own]
 exact⟨by simpa using heap_setCell_same h.row 5 (.int .i64 x),h.met.aM hc (by simpa using fun e=>hn.1 e.symm),h.low.aM hc (by simpa using fun e=>hn.2.1 e.symm),h.ed.aM hc (fun b hb=>hk.out h.ed b hb _ hs),h.map.aM hc (by simpa using fun e=>hn.2.2.1 e.symm),h.rel.aM hc (fun j hj=>hk.lt j (hs j hj)),h.aM.trans hc (fun j hj=>Qe (hs j hj))⟩
theorem dk.Zp (hk:k.Ok) (h:dk k g w s ev m F) {v:Nat} (hv:v<k.n) {x:Int} (hx:bn x):dk k g (w.setCell ⟨k.mb,v,none⟩ (.int .i64 x)) { s with met:=Plain.pS s.met v x } ev m F:=by
 have hn:=h.ne;have hc:ai [k.mb] w (w.setCell ⟨k.mb,v,none⟩ (.int .i64 x)):=(ai.refl [k.mb] w).setCell (Qe (by simp)) _;have hs:∀ j∈[k.mb],j∈k.own:=by simp[FK.own]
 exact⟨hc.heap h.row (by simpa using hn.1),h.met.set hv hx,h.low.aM hc (by simpa using fun e=>hk.ml e.symm),h.ed.aM hc (fun b hb=>hk.out h.ed b hb _ hs),h.map.aM hc (by simpa using fun e=>hn.2.2.2.1 e.symm),h.rel.aM hc (fun j hj=>hk.lt j (hs j hj)),h.aM.trans hc (fun j hj=>Qe (hs j hj))⟩
theorem dk.Gv (hk:k.Ok) (h:dk k g w s ev m F) {v:Nat} (hv:v<k.n) {x:Int} (hx:bn x):dk k g (w.setCell ⟨k.lb,v,none⟩ (.int .i64 x)) { s with low:=Plain.pS s.low v x } ev m F:=by
 have hn:=h.ne;have hc:ai [k.lb] w (w.setCell ⟨k.lb,v,none⟩ (.int .i64 x)):=(ai.refl [k.lb] w).setCell (Qe (by simp)) _;have hs:∀ j∈[k.lb],j∈k.own:=by simp[FK.own]
 exact⟨hc.heap h.row (by simpa using hn.2.1),h.met.aM hc (by simpa using hk.ml),h.low.set hv hx,h.ed.aM hc (fun b hb=>hk.out h.ed b hb _ hs),h.map.aM hc (by simpa using fun e=>hn.2.2.2.2 e.symm),h.rel.aM hc (fun j hj=>hk.lt j (hs j hj)),h.aM.trans hc (fun j hj=>Qe (hs j hj))⟩
theorem dk.push (hk:k.Ok) (h:dk k g w s ev m F) {v6:Value} {w6:World} {e:Int} (hr:ax w6 k.w0.heap.size v6 (s.ed++[e])) (hc:ai (aL ev) w w6) (ho:∀ b∈aL v6,b∈aL ev\/w.heap.size<=b) :
  dk k g (w6.setCell ⟨k.pb,6,none⟩ v6) (s.push e) v6 m F:=by
 rw[h.ed.aL] at hc ho;rw[hr.aL] at ho;have hn:=h.ne;have hx:∀ j∈k.own,j ∉ ev.ownBlock.toList:=fun j hj q=>by
  have:=(h.ed.low j q).1;have:=hk.lt j hj;omega
 have bG:ai [k.pb] w6 (w6.setCell ⟨k.pb,6,none⟩ v6):=(ai.refl [k.pb] w6).setCell (Qe (by simp)) _;have hs:∀ j∈[k.pb],j∈k.own:=by simp[FK.own]
 have hy:∀ {v:Value} {l:List Int},ax w6 k.w0.heap.size v l->∀ b∈v.ownBlock.toList,b ∉ [k.pb]:=fun hv b hb q=>by
  have:=(hv.low b hb).1;have:=hk.lt _ (hs b q);omega
 refine⟨by simpa[Plain.dG.push] using heap_setCell_same (hc.heap h.row (hx _ (by simp[FK.own]))) 6 v6,(h.met.aM hc (hx _ (by simp[FK.own]))).aM bG (by simpa using fun e=>hn.1 e.symm),(h.low.aM hc (hx _ (by simp[FK.own]))).aM bG (by simpa using fun e=>hn.2.1 e.symm),hr.aM bG (hy hr),(h.map.aM hc (hx _ (by simp[FK.own]))).aM bG (by simpa using fun e=>hn.2.2.1 e.symm),⟨fun l hl=>?_,h.rel.2⟩,(h.aM.trans hc (fun j hj=>Qq (h.ed.low j hj).1)).trans bG (fun j hj=>Qe (hs j hj))⟩;obtain⟨v,h1,h2,h3⟩:=h.rel.1 l hl;have h4:=h2.aM hc (fun b hb q=>h3 b (by simpa using hb) (by simpa using q));refine⟨v,h1,h4.aM bG (hy h4),fun b hb q=>?_⟩;rcases ho b (by simp[q]) with r | r
 ·exact h3 b hb (by simpa using r)
 have:=(h2.low b (by simp[hb])).2;omega
theorem dk.put (hk:k.Ok) (h:dk k g w s ev m F) {l:List Int} {v:Value} {m':Nat} (hv:ax w k.w0.heap.size v l) (ho:∀ b,v.ownBlock=some b->ev.ownBlock≠some b) (hc:ai [k.mp] w w') (hm:jq w' k.mp m' (fun y=>if y=l.getD 0 0 then some v else F y)) :
  dk k g w' { s with bl:=Plain.lG l s.bl } ev m' (fun y=>if y=l.getD 0 0 then some v else F y):=by
 have hn:=h.ne;have hs:∀ j∈[k.mp],j∈k.own:=by simp[FK.own]
 exact⟨hc.heap h.row (by simpa using hn.2.2.1),h.met.aM hc (by simpa using hn.2.2.2.1),h.low.aM hc (by simpa using hn.2.2.2.2),h.ed.aM hc (fun b hb=>hk.out h.ed b hb _ hs),hm,(h.rel.aM hc (fun j hj=>hk.lt j (hs j hj))).put (hv.aM hc (fun b hb=>hk.out hv b hb _ hs)) ho,h.aM.trans hc (fun j hj=>Qe (hs j hj))⟩
theorem dk.other (h:dk k g w s ev m F) {b:Nat} (hb:k.w0.heap.size<=b) (hk:k.Ok) (pA:ev.ownBlock≠some b) (hr:∀ l∈s.bl,∀ v,F (l.getD 0 0)=some v->v.ownBlock≠some b) (hc:ai [b] w w'):dk k g w' s ev m F:=by
 have hx:∀ j∈k.own,j ∉ [b]:=fun j hj q=>by
  have:=hk.lt j hj;simp at q;omega
 have hm:∀ j∈k.own,j≠b:=fun j hj q=>hx j hj (by simp[q]);refine⟨hc.heap h.row (hx _ (by simp[FK.own])),h.met.aM hc (hx _ (by simp[FK.own])),h.low.aM hc (hx _ (by simp[FK.own])),h.ed.aM hc (fun j hj q=>pA ?_),h.map.aM hc (hx _ (by simp[FK.own])),⟨fun l hl=>?_,h.rel.2⟩,h.aM.trans hc (fun j hj=>Qq (by simp at hj;omega))⟩
 ·simp at q hj
  rw[<-q];exact hj
 obtain⟨v,h1,h2,h3⟩:=h.rel.1 l hl;refine⟨v,h1,h2.aM hc (fun j hj q=>hr l hl v h1 ?_),h3⟩;simp at q hj;rw[<-q];exact hj
end
theorem LU {o:Oper} {a:Act} {Q:Exit->Act->World->Prop} {K:Act->World->Prop} {w:World} (m x u:Operand) (kU:o.op=Op.mapUpdate 101 m x u) {b n:Nat} {F:Int->Option Value} (h:jq w b n F) (hn:n<maxLen) (hm:a.eval m=.map (some b)) {k:Int} (hk:bn k) (hx:a.eval x=.int .i64 k) {v:Value} (hu:a.eval u=v) (hv:xu v)
  (hK:∀ w2,jq w2 b (n+1) (fun y=>if y=k then some v else F y)->ai [b] w w2->K (a.put o.dst undef) w2):Oper.wp Tryz.prog o a w K Q:=by
 obtain⟨w2,gC,r1,r2⟩:=h.AK hn hk hv;unfold Oper.wp;simp[execOp,kU,hm,hx,hu,gC,Result.andThen];exact hK _ r1 r2
set_option maxRecDepth 100000 in
set_option maxHeartbeats 4000000 in
theorem Lo (k:FK) (g:Plain.Gr) (p:Plain.Pt) (hk:k.Ok) (s:Plain.dG) (e:Nat) (r:Nat) (w:World) (he:(e:Int)∈s.ed) (h:Fin k g p w s r) :
  Calls Tryz.prog 173 #[.pointer (some ⟨k.pb,0,none⟩),.int .i64 e] w fun x w'=>x=.returned (.tuple #[])/\Fin k g p w' (s.take e) r:=by
 obtain⟨ev,m,F,hf,mh,jS⟩:=h;have hlen:s.ed.length<=100000:=by omega
 have HF:=lh hf;obtain⟨eo,ec,rfl⟩:=ax.shape hf.ed;have Ij:0<s.ed.length:=List.length_pos_of_mem he;obtain⟨eb,rfl,aO⟩:=ax.some hf.ed Ij;have sD:=lh aO;have j5:s.ed.length<=ec/\ec<=9223372036854775807:=by
  rcases hf.ed.1.2 with ⟨q,-⟩ | ⟨g',cap,cur,q,-,-,hn,VF,-⟩
  ·cases q
  simp only[Qn.injEq] at q;obtain⟨-,-,rfl⟩:=q;exact⟨hn,by unfold maxLen at VF;omega⟩
 obtain⟨i,hi⟩:∃ i,s.ed.idxOf (e:Int)=i:=⟨_,rfl⟩;have xc:i<s.ed.length:=by rw[<-hi];exact List.idxOf_lt_length_of_mem he
 have ru:=Lib.idxOf_hit s.ed s.ed.length i e xc (Qg _) (by
  subst hi;simp[Qk,xc,List.getElem_idxOf]) (fun j hj q=>by
  have sH:j<s.ed.length:=by omega
  have h2:s.ed[j]=(e:Int):=by simpa[Qk,sH] using q
  have h3:=List.not_of_lt_findIdx (p:=fun x=>x==(e:Int)) (xs:=s.ed) (i:=j) (by show j<s.ed.idxOf (e:Int);rw[hi];exact hj);simp[h2] at h3)
 have HIX:=lh ru;have HI:=lh hi;obtain⟨-,-,-,-,-,-,c6,c7⟩:=hf.eight;have f6:=hf.free 6;obtain⟨L,hL⟩:∃ L,s.ed.length=L:=⟨_,rfl⟩;have HL:=lh hL;rw[hL] at j5 xc HIX c6 hlen sD;have Nl:=lh (show ∀ j,j<(s.ed.drop i).length->w.cell? ⟨eb,i+j,none⟩=some (.int .i64 ((s.ed.drop i).getD j 0)) from fun j hj=>by
  rw[Qb,hL] at hj;rw[show (s.ed.drop i).getD j 0=s.ed.getD (i+j) 0 by simp[Qk]];exact sD.out (i+j) (by omega))
 clear hf aO ru hi hL Ij he
 go_enter Tryz.func173,Tryz.ntmps173
 go_wp2_with fail
 refine (Tryz.slices_Index_int eb 0 L ec s.ed (e:Int) w (by rw[HL.out];exact Qg _) (by omega) (fun j hj=>by rw[HL.out] at hj;rw[Nat.zero_add];exact sD.out j hj)).mono ?_;rintro x w' ⟨rfl,rfl⟩;rw[HIX.out]
 go_wp2_with fail
 refine (Tryz.slices_Clone_int eb i (L - i) (ec - i) (s.ed.drop i) _ (by rw[Qb,HL.out];exact Qg _) (by omega) Nl.out).mono ?_;rintro x wa ⟨vc,rfl,ma,-,fT⟩;rw[show ((s.ed.drop i).take (L - i)).map (Value.int .i64)=ints (s.ed.drop i) by rw[List.take_of_length_le (by rw[Qb,HL.out];exact Qg _)];rfl] at ma;have qt:=ai.n9 fT (Qg _);obtain⟨cb,acq,rfl⟩:=cN ma (by omega);have zj:=lh (show w'.heap.size<=cb from (ma.lt cb rfl).1);have AW:=lh (HF.out.fresh qt);have x9:(s.ed.drop i).length=L - i:=by rw[Qb,HL.out]
 have hra:ax wa w'.heap.size (.slice (some ⟨cb,0,none⟩) (L - i) acq) (s.ed.drop i):=⟨by rw[x9];exact ma,fun x hx=>HF.out.ed.2.1 x (List.mem_of_mem_drop hx),by rw[x9];omega⟩;have HRA:=lh hra;have uW:=lh (show k.w0.heap.size<=w'.heap.size from HF.out.aM.size);have HEB:=lh (show eb<w'.heap.size from (HF.out.ed.low eb (by simp[Qa])).2);have Cr:=lh (show ∀ l∈s.bl,∀ v,F (l.getD 0 0)=some v->∀ b,v.ownBlock=some b->b<w'.heap.size/\b≠eb from fun l hl v hv b hb=>by
  obtain⟨u,h1,h2,h3⟩:=HF.out.rel.1 l hl;rw[hv] at h1;obtain rfl:v=u:=by simpa using h1
  exact⟨(h2.low b (by simp[hb])).2,fun q=>h3 b hb (by rw[q];rfl)⟩)
 have d6:=qt.c c6;have d7:=qt.c c7;have g6:=qt.frozen c6 f6 (by simp);have O7:=lh (AW.out.ah hk (ev':=.slice (some ⟨eb,0,none⟩) i ec) (ed':=s.ed.take i) ((HL.out ▸ AW.out.ed:ax wa k.w0.heap.size (.slice (some ⟨eb,0,none⟩) L ec) s.ed).cut (by rw[HL.out];omega)) (fun l hl v hv b hb q=>(Cr.out l hl v hv b hb).2 (by simpa[Qa] using q.symm)));clear ma fT qt hra x9 c6 c7 f6
 go_wp2_with fail
 have wU:ai [k.pb] wa (wa.setCell ⟨k.pb,6,none⟩ (.slice (some ⟨eb,0,none⟩) i ec)):=(ai.refl [k.pb] wa).setCell (Qe (by simp)) _;have pa:k.pb<k.w0.heap.size:=hk.lt _ (by simp[FK.own]);have aad:=lh ((HRA.out.aM wU (by
  intro b hb q;have h1:b=cb:=by simpa[Qa] using hb
  have h2:b=k.pb:=by simpa using q
  have h3:=zj.out;have h4:=uW.out;omega)).base uW.out)
 clear wU d6 d7 g6 HRA Nl AW sD;generalize wa.setCell ⟨k.pb,6,none⟩ (.slice (some ⟨eb,0,none⟩) i ec)=wb at *;obtain⟨Q,hQ⟩:∃ Q,s.ed.drop i=Q:=⟨_,rfl⟩;have Lu:Q.length=L - i:=by rw[<-hQ,Qb,HL.out]
 rw[hQ] at aad;refine (sY _ Q _ wb (by omega) aad.out).mono ?_;rintro x wc ⟨rfl,tQ,jM⟩;have Fo:(Plain.Ak Q).length=L - i:=by rw[(Plain.eh Q).length_eq,Lu]
 have Ur:ax wc k.w0.heap.size (.slice (some ⟨cb,0,none⟩) (L - i) acq) (Plain.Ak Q):=tQ;have HRC:=lh Ur;have lM:eb≠cb:=by have:=zj.out;have:=HEB.out;omega
 have Fh:=lh (O7.out.other (b:=cb) (by have:=zj.out;have:=uW.out;omega) hk (by simpa[Qa] using lM) (fun l hl v hv q=>by
  have h1:=(Cr.out l hl v hv cb q).1;have h2:=zj.out;omega) (by simpa[Qa] using jM))
 obtain⟨-,-,-,-,-,-,-,k7⟩:=Fh.out.eight;obtain⟨g',e1,gy⟩:=ax.some Ur (by omega);cases e1;have k0:=gy 0 (by omega);obtain⟨z,hz⟩:∃ z,(Plain.Ak Q).getD 0 0=z:=⟨_,rfl⟩;have HZ:=lh hz;have IZ:bn z:=hz ▸ Ur.2.1 _ (Plain.aZ (by omega));rw[hz] at k0;have hn0:0<L - i:=by omega
 generalize L - i=M at *;have y8:(0:Int)<(M:Int):=by omega
 have HQ:=lh hQ;clear hQ Lu tQ Ur jM gy hz Fo pa lM O7 aad
 go_wp2_with fail
 have aD:ai [] wc wc.drew:=(ai.refl [] wc).drew;refine au (ai [] wc) [0,1,2,3,4,5,6,7] (Way.line [0,1,2,3,4,5,6,7,8] .done) (by kernel_rfl) (by kernel_rfl) ?_;simp only[Way.line]
 repeat
  first
   | (refine ar rfl (by rfl) (by rfl) (fun _ _ _ h=>h) aD ?_;simp only[Qr,Z1,Z2,Z3,Z4,Z5,Z6])
   | (refine aq (v:=?_) rfl (by rfl) (by rfl) (fun _ _ _ h=>h) aD (fun w' aK=>?_) ?_;rotate_left;(focus (have fU:=aK.c k7;have gX:=aK.c k0;clear aK;go_simp;try with_reducible rfl));simp only[Qr,Z1,Z2,Z3,Z4,Z5,Z6])
   | (refine ak rfl (by rfl) (by rfl) aD ?_;simp only[Qr,Z1,Z2,Z3,Z4,Z5,Z6])
 refine aC rfl (by rfl) (by rfl) (fun K hK=>?_);refine LU _ _ _ rfl ((Fh.out.fresh aD).map) (by unfold maxLen;omega) rfl IZ rfl rfl (xu.some _ _ _ _) ?_;intro wd hmd LV;refine hK.out _ _ (fun h=>absurd h (Bool.eq_false_iff.1 (by kernel_rfl))) ?_;clear hK K
 try simp only[Qr,List.getElem_toArray,List.getElem_cons_zero,List.getElem_cons_succ]
 refine aB ?_;have HFD:=lh ((Fh.out.fresh aD).put hk ((HRC.out.aM aD (by simp))) (fun b hb q=>by
  have h1:b=cb:=by simpa[Qa] using hb.symm
  have h2:b=eb:=by simpa[Qa] using q.symm
  have:=zj.out;have:=HEB.out;omega) LV (by rw[HZ.out];exact hmd))
 refine bodyPost_end (v:=.tuple #[]) (by simp[results,Tryz.results173,go_sem]) rfl ?_;have e:s.take (e:Int)=⟨s.met,s.low,s.dK,s.ed.take i,Plain.lG (Plain.Ak Q) s.bl⟩:=by
  unfold Plain.dG.take;rw[HI.out,HQ.out]
 rw[e];exact⟨rfl,_,m+1,_,HFD.out,by
  show m+1+(s.ed.take i).length+Plain.yF g p s+r<=100000;rw[Ql,HL.out,Qo (by omega)];have:=HL.out;omega,jS⟩
end Go.Proofs.YtbkjljffnkdcjaaGreat
namespace Go.Proofs.YtbkjljffnkdcjaaGreat.Plain
variable {g : Gr} {p : Pt}
theorem cB.less {s t:dG} {A:List Int} {v via:Int} (hE:vm g p s A v via) {n:Nat} (hn:BS p s<=n+1) {pre:List Int} {d:Int} (h:cB g p s t A v via pre):BS p (t.push d)<=n:=by
 have:BS p (t.push d)<BS p s:=by
  refine fV (a:=v) (fun x _ hx=>?_) hE.vV ?_ (decide_eq_true hE.vn)
  ·have hx:t.met x=0:=of_decide_eq_true hx
   exact decide_eq_true (Qf fun q=>h.mono q hx)
  exact decide_eq_false (h.rH hE).2
 omega
theorem cB.step (hp:aH g p) {n:Nat} {s t:dG} {A:List Int} {v via:Int} (hE:vm g p s A v via) (hn:BS p s<=n+1) {pre:List Int} {d:Int} (h:cB g p s t A v via pre) (zD:d∈a8 g p v) (zm:d ∉ pre):cB g p s (fg (visit g p n) g v via t d) A v via (pre++[d]):=by
 obtain⟨hd,hv⟩:=bk.1 zD;have qj:=h.rH hE;unfold fg;by_cases c1:g.head d=v
 ·rw[if_pos c1];exact h.loop hp hE hd hv c1
 rw[if_neg c1];by_cases c2:d / 2=via
 ·rw[if_pos c2]
  have hA:=hE.q8 hp hd hv c2;exact h.same (h.mono (hE.bV.act _ hA)) (fun _ q=>absurd c2 q) fun q=>absurd c2 q
 rw[if_neg c2];by_cases c3:t.met (g.head d)=0
 ·rw[if_pos c3]
  refine h.child hp hE hd hv zm c2 c3 (qX hp n _ _ _ _ (h.ent hp hE hd hv c3) ?_);exact h.less hE hn
 rw[if_neg c3];by_cases c4:t.met (g.head d)<t.met v
 ·rw[if_pos c4];exact h.up hp hE hd hv zm c1 c2 c3 c4
 rw[if_neg c4];have Cm:s.met (g.head d)=0:=Qf fun q=>by
  have h1:=(hE.bV.num (g.head d)).2;rw[(h.old _ q).1,h.me] at c4;omega
 refine h.same c3 (fun q=>absurd Cm (hE.bV.act _ q)) fun q=>⟨q,aE d,bu hd,bA d,by rw[aA];exact⟨Cm,c3⟩,Qe (by rw[aA];exact c1)⟩
theorem JZ {v:Int} {f f':Int->Bool} {h:Int->Nat} (hf:f v=true) (uU:f' v=false) (heq:∀ x,x≠v->f x=f' x):∀ {l:List Int},l.Nodup->v∈l->((l.filter f).map h).sum=h v+((l.filter f').map h).sum
 | [],_,hv=>by simp at hv
 | x :: l,hn,hv=>by
  by_cases e:x=v
  ·subst e
   have hx:x ∉ l:=(Qp.1 hn).1;have:l.filter f=l.filter f':=List.filter_congr fun y hy=>heq y fun q=>hx (q ▸ hy);rw[Qc hf,Qd (by simp[uU]),this];simp
  have ih:=JZ (h:=h) hf uU heq (l:=l) (Qp.1 hn).2 ((List.mem_cons.1 hv).resolve_left fun q=>e q.symm);have e2:=heq x e;cases q:f' x with
  | true =>
   rw[q] at e2;rw[Qc e2,Qc q];simp only[List.map_cons,List.sum_cons];omega
  | false =>
   rw[q] at e2;rw[Qd (by simp[e2]),Qd (by simp[q])];exact ih
theorem LD (hp:aH g p) {s:dG} {v:Int} (hv:v∈p.v) (hm:s.met v=0) (hc:0<=s.dK):yF g p s=(a8 g p v).length+1+yF g p (s.enter v):=by
 unfold yF;refine JZ (v:=v) (decide_eq_true hm) ?_ (fun x hx=>?_) hp.vn hv
 ·refine decide_eq_false ?_
  show pS s.met v (s.dK+1) v≠0;rw[qd];omega
 show decide (s.met x=0)=decide (pS s.met v (s.dK+1) x=0);rw[nT hx]
end Go.Proofs.YtbkjljffnkdcjaaGreat.Plain
