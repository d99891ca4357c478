/- package rota: the contracts of Darts and of its iterator. Conditions: turns that lie in memory and read so. -/
import Derived.RangeFuncNested
import Derived.RangeFuncBound
import Derived.RangeFuncCalls
import Derived.RangeFuncLeaves
import Derived.RangeFuncBox
import Derived.Shelf.Abstract
import Derived.Shelf.AbstractIn
import Derived.Shelf.RegionOpen
import Derived.OwnWalkIn
import Derived.TacticsInMore
import Derived.LoopNIn
import Derived.LoopIn
import Derived.Maps.OwnIn
import Derived.Test.YtbkjljffnkdcjaaS9Good
import Derived.Test.YtbkjljffnkdcjaaS9Queue
namespace Go.Proofs.Ytbkjljffnkdcjaa
open Go.RowKit Go.Maps
section
attribute [local go_sem] Oper.semAt_some
end
end Go.Proofs.Ytbkjljffnkdcjaa
namespace Go.Proofs.Ytbkjljffnkdcjaa
open Go.RowKit Go.Maps
end Go.Proofs.Ytbkjljffnkdcjaa
namespace Go.Proofs.Ytbkjljffnkdcjaa
open Go.RowKit Go.Maps
section
variable {ops : Array Oper} {rest : List Oper} {o : Oper} {a : Act} {Q : Exit → Act → World → Prop} {w w' : World} {F : Fence} {nF : Nat}
theorem wl_apprun (hg:o.guard=none) (s x:Operand) (t:TypeId) (ho:o.op=.call { callee:=.builtin .append,args:=#[s,x],argTypes:=#[t,t] }) {v u r:Value} (hs:a.eval s=v) (hx:a.eval x=u)
  (hr:(Builtin.append_ #[t,t] o.type #[v,u]).run Try.prog w=.ok r w') (hK:wpList Try.prog ops Q rest (a.put o.dst r) w'):wpList Try.prog ops Q (o :: rest) a w:=by
 refine wpList_plain hg fun K hK'=>?_
 unfold Oper.wp execOp
 simp only[ho,resolve,invoke,builtin,Sem.run_bind,Sem.run_pure,Result.andThen_ok,List.map_toArray,List.map_cons,List.map_nil,hs,hx,hr]
 exact hK' _ _ hK
variable (w)
end
namespace Plain
end Plain
end Go.Proofs.Ytbkjljffnkdcjaa
namespace Go.Proofs.Ytbkjljffnkdcjaa
open Go.RowKit Go.Maps
section
attribute [local go_sem] Oper.semAt_some
end
end Go.Proofs.Ytbkjljffnkdcjaa
namespace Go.Proofs.Ytbkjljffnkdcjaa.Plain
theorem darts_pair {p:Pt} (h:p.e.Pairwise (·<·)):p.darts.Pairwise (·<·):=by
 obtain⟨v,e⟩:=p
 unfold Pt.darts
 dsimp only at h ⊢
 induction e with
 | nil=>simp
 | cons a l ih =>
  rw[List.pairwise_cons] at h
  rw[List.flatMap_cons,List.pairwise_append]
  refine⟨by simp;omega,ih h.2,fun x hx y hy=>?_⟩
  obtain⟨b,hb,hy⟩:=List.mem_flatMap.1 hy
  have:=h.1 b hb
  simp at hx hy
  omega
theorem Trk.least' {g:Gr} {p:Pt} {turn:List (List Int)} {F:List Face} (h:Trk g p turn F p.darts) (hr:p.e.Pairwise (·<·)) {f:Face} (hf:f∈F) {y:Int} (hy:y∈f.2):f.1≤y:=by
 obtain⟨a,b,e,ha⟩:=h.least f hf
 have hd:=h.sub y (List.mem_flatten.2 ⟨f.2,List.mem_map.2 ⟨f,hf,rfl⟩,hy⟩)
 have hp:=darts_pair hr
 rw[e] at hd hp
 rcases List.mem_append.1 hd with q | q
 ·exact absurd q (ha y hy)
 rcases List.mem_cons.1 q with q | q
 ·omega
 have:=(List.pairwise_cons.1 (List.pairwise_append.1 hp).2.1).1 y q
 omega
theorem Trk.keysRise {g:Gr} {p:Pt} {turn:List (List Int)} {F:List Face} (h:Trk g p turn F p.darts) (hr:p.e.Pairwise (·<·)):(F.map (·.1)).Pairwise (·<·):=(darts_pair hr).sublist h.keys
theorem Trk.sub' {g:Gr} {p:Pt} {turn:List (List Int)} {F F':List Face} (h:Trk g p turn F p.darts) (h':Trk g p turn F' p.darts) (hr:p.e.Pairwise (·<·)) {f:Face} (hf:f∈F):f∈F':=by
 obtain⟨l,e⟩:=h.key f hf
 have hd:f.1∈flat F':=h'.cover _ (h.sub _ (List.mem_flatten.2 ⟨f.2,List.mem_map.2 ⟨f,hf,rfl⟩,by rw[e];simp⟩))
 obtain⟨c,hc,hdc⟩:=List.mem_flatten.1 hd
 obtain⟨f',hf',rfl⟩:=List.mem_map.1 hc
 obtain⟨l',e'⟩:=h'.key f' hf'
 have hr1:=h.rings.ring f.2 (List.mem_map.2 ⟨f,hf,rfl⟩)
 have hr2:=h'.rings.ring f'.2 hc
 obtain⟨m,hm,hperm⟩:=hr2.from hdc
 have hn1:(f.1 :: l).Nodup:=by
  rw[←e]
  exact (nodup_flat.1 h.rings.nodup).1 _ (List.mem_map.2 ⟨f,hf,rfl⟩)
 have hn2:f'.2.Nodup:=(nodup_flat.1 h'.rings.nodup).1 _ hc
 have hn3:(f.1 :: m).Nodup:=hperm.nodup_iff.2 hn2
 rw[e] at hr1
 have hlm:l=m:=Trail.det (x:=f.1) hr1 hm (List.nodup_cons.1 hn1).1 (List.nodup_cons.1 hn3).1
 subst hlm
 have h1:f.1≤f'.1:=h.least' hr hf (by rw[e];exact hperm.mem_iff.2 (by rw[e'];simp))
 have h2:f'.1≤f.1:=h'.least' hr hf' hdc
 have hk:f.1=f'.1:=by omega
 rw[e'] at hr2 hn2
 rw[←hk] at hr2 hn2
 have hll:l=l':=Trail.det (x:=f.1) hr1 hr2 (List.nodup_cons.1 hn1).1 (List.nodup_cons.1 hn2).1
 have:f=f':=by
  obtain⟨a,b⟩:=f
  obtain⟨a',b'⟩:=f'
  dsimp only at e e' hk
  rw[e,e',hk,hll]
 rw[this]
 exact hf'
theorem keys_ext:∀ {F F':List Face},(F.map (·.1)).Pairwise (·<·)→(F'.map (·.1)).Pairwise (·<·)→(∀ f,f∈F↔f∈F')→F=F'
 | [],[],_,_,_=>rfl
 | [],f :: F',_,_,h=>by have:=(h f).2 (by simp);simp at this
 | f :: F,[],_,_,h=>by have:=(h f).1 (by simp);simp at this
 | f :: F,f' :: F',h1,h2,h=>by
  rw[List.map_cons,List.pairwise_cons] at h1 h2
  have a1:∀ x∈F,f.1<x.1:=fun x hx=>h1.1 x.1 (List.mem_map.2 ⟨x,hx,rfl⟩)
  have a2:∀ x∈F',f'.1<x.1:=fun x hx=>h2.1 x.1 (List.mem_map.2 ⟨x,hx,rfl⟩)
  have e:f=f':=by
   rcases List.mem_cons.1 ((h f).1 (by simp)) with q | q
   ·exact q
   rcases List.mem_cons.1 ((h f').2 (by simp)) with r | r
   ·exact r.symm
   have:=a1 _ r;have:=a2 _ q;omega
  subst e
  rw[keys_ext h1.2 h2.2 fun x=>⟨fun hx=>?_,fun hx=>?_⟩]
  ·rcases List.mem_cons.1 ((h x).1 (by simp[hx])) with q | q
   ·subst q;have:=a1 _ hx;omega
   exact q
  rcases List.mem_cons.1 ((h x).2 (by simp[hx])) with q | q
  ·subst q;have:=a2 _ hx;omega
  exact q
theorem WalksOk.one {g:Gr} {p:Pt} {turn:List (List Int)} {W W':List Face} (hr:p.e.Pairwise (·<·)) (h:WalksOk g p turn W) (h':WalksOk g p turn W'):W=W':=by
 obtain⟨F,e,k⟩:=h.split
 obtain⟨F',e',k'⟩:=h'.split
 rw[e,e',keys_ext (k.keysRise hr) (k'.keysRise hr) fun f=>⟨fun hf=>k.sub' k' hr hf,fun hf=>k'.sub' k hr hf⟩]
open Classical in
noncomputable def walksOf (g:Gr) (p:Pt) (turn:List (List Int)):List Face:=if h:∃ W,WalksOk g p turn W then Classical.choose h else []
theorem WalksOk.eq {g:Gr} {p:Pt} {turn:List (List Int)} {W:List Face} (hr:p.err g=0) (h:WalksOk g p turn W):W=walksOf g p turn:=by
 have hex:∃ W,WalksOk g p turn W:=⟨W,h⟩
 unfold walksOf
 rw[dif_pos hex]
 exact h.one (rises_pair (Pt.err_ok hr).2.2.1) (Classical.choose_spec hex)
def Flat (g:Gr) (p:Pt) (turn:List (List Int)):Prop:=∀ r∈roots g p,genusAt g p (walksOf g p turn) r=0
open Classical in
noncomputable def flatErr (g:Gr) (p:Pt) (turn:List (List Int)):Int:=if turnErr g p turn≠0 then turnErr g p turn else if Flat g p turn then 0 else 6
theorem flatErr_turn {g:Gr} {p:Pt} {turn:List (List Int)} (h:turnErr g p turn≠0):flatErr g p turn=turnErr g p turn:=if_pos h
theorem flatErr_ok {g:Gr} {p:Pt} {turn:List (List Int)} (h:turnErr g p turn=0) (hf:Flat g p turn):flatErr g p turn=0:=by unfold flatErr;rw[if_neg (by simp[h]),if_pos hf]
theorem flatErr_bad {g:Gr} {p:Pt} {turn:List (List Int)} (h:turnErr g p turn=0) (hf:¬ Flat g p turn):flatErr g p turn=6:=by unfold flatErr;rw[if_neg (by simp[h]),if_neg hf]
theorem walks_keys {g:Gr} {p:Pt} {turn:List (List Int)} {W:List Face} (hr:p.err g=0) (h:WalksOk g p turn W):(W.map (·.1)).Pairwise (·<·):=by
 obtain⟨F,rfl,ht⟩:=h.split
 rw[List.map_append,List.pairwise_append]
 have hv:=(Pt.err_ok hr).2.1
 have hpo:=Pt.ok_of_err hr
 refine⟨?_,ht.keysRise (rises_pair (Pt.err_ok hr).2.2.1),fun x hx y hy=>?_⟩
 ·unfold loneAt
  rw[List.map_map,List.pairwise_map]
  refine (List.Pairwise.filter _ (List.pairwise_reverse.2 (rises_pair hv))).imp fun {a b} hab=>?_
  show -1 - a < -1 - b
  omega
 obtain⟨f,hf,rfl⟩:=List.mem_map.1 hx
 obtain⟨v,hv2,rfl⟩:=List.mem_map.1 hf
 have hvm:=hpo.vr v (List.mem_reverse.1 (List.mem_filter.1 hv2).1)
 have hd:=ht.keys.subset hy
 rw[mem_darts] at hd
 have:=hpo.er _ hd
 show -1 - v<y
 omega
end Go.Proofs.Ytbkjljffnkdcjaa.Plain
namespace Go.Proofs.Ytbkjljffnkdcjaa
def pcs (V E:Int→List Int) (R:List Int):List Cell:=R.flatMap fun r=>[.row (V r),.row (E r)]
theorem pcs_snoc (V E:Int→List Int) (R:List Int) (r:Int):pcs V E (R++[r])=pcs V E R++[.row (V r),.row (E r)]:=by simp[pcs]
theorem pcs_cons (V E:Int→List Int) (R:List Int) (r:Int):pcs V E (r :: R)=.row (V r) :: .row (E r) :: pcs V E R:=rfl
theorem pcs_even (V E:Int→List Int):∀ (R:List Int) (n:Nat),n<R.length→(pcs V E R)[n*2]?=some (.row (V (R.getD n 0)))
 | [],n,h=>by simp at h
 | r :: R,0,_=>by rw[pcs_cons];rfl
 | r :: R,n+1,h=>by
  rw[pcs_cons,show (n+1)*2=n*2+1+1 by omega,List.getElem?_cons_succ,List.getElem?_cons_succ,pcs_even V E R n (by simpa using h)]
  rfl
theorem pcs_odd (V E:Int→List Int):∀ (R:List Int) (n:Nat),n<R.length→(pcs V E R)[n*2+1]?=some (.row (E (R.getD n 0)))
 | [],n,h=>by simp at h
 | r :: R,0,_=>by rw[pcs_cons];rfl
 | r :: R,n+1,h=>by
  rw[pcs_cons,show (n+1)*2+1=(n*2+1)+1+1 by omega,List.getElem?_cons_succ,List.getElem?_cons_succ,pcs_odd V E R n (by simpa using h)]
  rfl
namespace Plain
theorem getD_mem {l:List Int} {n:Nat} (h:n<l.length):l.getD n 0∈l:=by simp[List.getD,h]
end Plain
end Go.Proofs.Ytbkjljffnkdcjaa
namespace Go.Proofs.Ytbkjljffnkdcjaa
open Go.RowKit Go.Maps
theorem elemPart:Elem 58 27 (.agg #[.slice none 0 0,.slice none 0 0]) 2 48:=⟨Try.underlying58,by kernel_rfl,rfl,by decide,by decide⟩
theorem rowNil (w:World) (B:Nat):RowAt w B (.slice none 0 0) []:=⟨World.ownsRow_nil _ _ _ _,by simp,by simp⟩
end Go.Proofs.Ytbkjljffnkdcjaa
namespace Go.Proofs.Ytbkjljffnkdcjaa
open Go.RowKit Go.Maps
namespace Plain
end Plain
end Go.Proofs.Ytbkjljffnkdcjaa
namespace Go.Proofs.Ytbkjljffnkdcjaa
open Go.RowKit Go.Maps
namespace Plain
end Plain
theorem row_made {w:World} {B fb n c:Nat} (h:w.ownsRow B 3 1 (.slice (some ⟨fb,0,none⟩) n c) n (madeCells (Value.int .i64 0).cells (n*1)).toList) (hn:n<4294967296):RowAt w B (.slice (some ⟨fb,0,none⟩) n c) (List.replicate n 0):=by
 have e1:(madeCells (Value.int .i64 0).cells (n*1)).toList=ints (List.replicate n 0):=by
  show (madeCells #[Value.int .i64 0] (n*1)).toList=_
  rw[Nat.mul_one,toList_madeCells_one]
  simp[ints]
 rw[e1] at h
 refine⟨by rw[List.length_replicate];exact h,fun x hx=>?_,by rw[List.length_replicate];exact hn⟩
 have:=List.eq_of_mem_replicate hx
 subst this
 exact I64.mk (by omega) (by omega)
end Go.Proofs.Ytbkjljffnkdcjaa
