/- package walk: contracts of the queue's two closures. Conditions: the variable that holds the queue lies in memory and reads so. -/
import Derived.Test.YtbkjljffnkdcjaaS9Row
import Derived.ArgAppend
import Derived.Deep.LoopGhost
namespace Go.Proofs.Ytbkjljffnkdcjaa
open Go.RowKit Go.Maps
def QRow (w:World) (H:Nat) (v:Value) (q:List Int):Prop :=
 (∀ x∈q,I64 x)∧q.length<4294967296 ∧
 ((v=.slice none 0 0∧q=[])∨∃ g off cap cur,v=.slice (some ⟨g,off,none⟩) q.length cap∧H≤g∧w.heap[g]?=some (.cells cur 3 (0,0))∧q.length≤cap∧cap≤9223372036854775807∧off+cap≤cur.size ∧
  ∀ i,i<q.length→cur[off+i]?=some (.int .i64 (q.getD i 0)))
theorem QRow.chg {w w':World} {H:Nat} {v:Value} {q:List Int} {own:List Nat} (h:QRow w H v q) (hc:Chg own w w') (hn:∀ b∈v.ownBlock.toList,b ∉ own):QRow w' H v q:=by
 obtain⟨h1,h2,h3⟩:=h
 refine⟨h1,h2,h3.imp id ?_⟩
 rintro ⟨g,off,cap,cur,rfl,k1,k2,k3⟩
 exact⟨g,off,cap,cur,rfl,k1,hc.heap k2 (hn g (by simp[Value.ownBlock])),k3⟩
theorem QRow.of_row {w:World} {H:Nat} {v:Value} {q:List Int} (h:RowAt w H v q):QRow w H v q:=by
 refine⟨h.2.1,h.2.2,?_⟩
 rcases h.1.2 with ⟨rfl,h0⟩ | ⟨g,cap,cur,rfl,hg,hh,hnc,hcm,hcs,hys⟩
 ·exact Or.inl ⟨rfl,List.length_eq_zero_iff.1 h0⟩
 refine Or.inr ⟨g,0,cap,cur,rfl,hg,hh,hnc,hcm,by omega,fun i hi=>?_⟩
 have q1:(ints q)[i]?=some (.int .i64 (q.getD i 0)):=by simp[ints,List.getD,hi]
 rw[←hys,List.getElem?_take,if_pos (by omega)] at q1
 rw[Nat.zero_add]
 simpa using q1
theorem qcells {w:World} {g off:Nat} {cur:Array Value} {q:List Int} (hh:w.heap[g]?=some (.cells cur 3 (0,0))) (hq:∀ i,i<q.length→cur[off+i]?=some (.int .i64 (q.getD i 0))):∀ j u,(ints q)[j]?=some u→w.cell? ⟨g,off+j,none⟩=some u:=by
 intro j u hj
 have hjl:j<q.length:=by have:=(List.getElem?_eq_some_iff.1 hj).1;simpa[ints] using this
 rw[cell_of_row w g (off+j) cur _ _ hh,hq j hjl,←hj]
 simp[ints,List.getD,hjl]
theorem run_qput {w:World} {H:Nat} {v:Value} {q:List Int} {x:Int} (hq:QRow w H v q) (hx:I64 x) (hH:H≤w.heap.size) (hn:q.length+1<4294967296) (ty:TypeId) :
  ∃ v' w',(Builtin.append_ #[25,25] ty #[v,.slice (some ⟨w.heap.size,0,none⟩) 1 1]).run Try.prog (w.alloc (.cells #[.int .i64 x] 3))=.ok v' w'∧QRow w' H v' (q++[x])∧Chg v.ownBlock.toList w w':=by
 obtain⟨h1,h2,h3⟩:=hq
 have hca:Chg [] w (w.alloc (.cells #[.int .i64 x] 3)):=(Chg.refl [] w).alloc _
 have hsz:(w.alloc (.cells #[.int .i64 x] 3)).heap.size=w.heap.size+1:=by simp
 obtain⟨i0,hi,hz0,hz1,hz2⟩:=info_parts elemInt.hi
 have hxs:∀ y∈q++[x],I64 y:=fun y hy=>(List.mem_append.1 hy).elim (h1 y) (fun e=>by simp at e;subst e;exact hx)
 have hlen:(q++[x]).length<4294967296:=by simp;omega
 have hnews:∀ j u,[Value.int .i64 x][j]?=some u→(w.alloc (.cells #[.int .i64 x] 3)).cell? ((⟨w.heap.size,0,none⟩:Addr).add j)=some u:=cell_one_new w _ _
 rcases h3 with ⟨rfl,rfl⟩ | ⟨g,off,cap,cur,rfl,hg,hh,hnc,hcm,hoc,hcs⟩
 ·obtain⟨g,c,w',hr,r1,r2,-⟩:=run_app elemInt (w0:=w) (B:=H) (v:=.slice none 0 0) (n:=0) (xs:=[]) (World.ownsRow_nil _ _ _ _) hH (cs:=#[.int .i64 x]) rfl (oneInt x) (by omega) (Or.inl rfl) ty
  exact⟨_,w',hr,QRow.of_row ⟨by simpa[ints] using r1,by simpa using hx,by simp⟩,r2⟩
 have hh1:=hca.heap hh (by simp)
 by_cases hroom:q.length+1≤cap
 ·have hr:=run_append_room_cells (P:=Try.prog) (w.alloc (.cells #[.int .i64 x] 3)) 25 ty 3 i0 elemInt.ht hi g off q.length cap ⟨w.heap.size,0,none⟩ 1 1 [.int .i64 x] (by rw[hz1];rfl) hnews (by intro u hu;simp at hu;subst hu;rfl) hroom
   (fun j hj=>by
    have:j=0:=by simpa using hj
    subst this
    have hlt:off+q.length<cur.size:=by omega
    rw[hz1,cell_of_row _ g _ cur _ _ hh1]
    simp[hlt])
   (fun j hj=>by simp[World.frozen?,hh1])
  rw[hz1,Nat.mul_one] at hr
  have hset:(w.alloc (.cells #[.int .i64 x] 3)).setCells g (off+q.length) [.int .i64 x]=(w.alloc (.cells #[.int .i64 x] 3)).setCell ⟨g,off+q.length,none⟩ (.int .i64 x):=rfl
  rw[hset] at hr
  refine⟨_,_,hr,⟨hxs,hlen,Or.inr ⟨g,off,cap,cur.setIfInBounds (off+q.length) (.int .i64 x),by simp,hg,heap_setCell_same hh1 _ _,by simp;omega,hcm,by simpa using hoc,fun i hi=>?_⟩⟩,?_⟩
  ·by_cases e:i=q.length
   ·subst e
    simp[List.getD,show off+q.length<cur.size by omega]
   have hi':i<q.length:=by simp at hi;omega
   rw[Array.getElem?_setIfInBounds_ne (by omega),hcs i hi']
   simp[List.getD,hi',List.getElem?_append_left hi']
  exact ((Chg.refl _ w).alloc _).setCell (Or.inl (by simp[Value.ownBlock])) _
 have hold:∀ j u,(ints q)[j]?=some u→(w.alloc (.cells #[.int .i64 x] 3)).cell? ((⟨g,off,none⟩:Addr).add j)=some u:=by
  intro j u hj
  rw[Addr.add_lit]
  exact qcells hh1 hcs j u hj
 obtain⟨v',w',hr,r1,r2⟩:=run_append_arg_grows (P:=Try.prog) (w.alloc (.cells #[.int .i64 x] 3)) 25 ty 3 i0 (.int .i64 0) 1 8 elemInt.ht hi hz0 hz1 hz2 elemInt.hz elemInt.h0 ⟨g,off,none⟩ q.length cap (ints q) (by simp[ints]) hold ⟨w.heap.size,0,none⟩ 1 1 [.int .i64 x] rfl hnews (by omega) (by unfold maxLen;omega) (by omega)
 have hrow:RowAt w' (w.heap.size+1) v' (q++[x]):=⟨by rw[List.length_append];rw[hsz] at r1;simpa[ints] using r1,hxs,hlen⟩
 exact⟨v',w',hr,QRow.of_row (hrow.base (by omega)),(((Chg.refl [] w).alloc _).grown r2 (by simp)).mono (by simp)⟩
theorem wl_qput {ops:Array Oper} {rest:List Oper} {o:Oper} {a:Act} {Q:Exit→Act→World→Prop} {w:World} (hg:o.guard=none) (s x:Operand) (ho:o.op=.call { callee:=.builtin .append,args:=#[s,x],argTypes:=#[25,25] })
  {H:Nat} {v:Value} {q:List Int} {z:Int} (hs:a.eval s=v) (hx:a.eval x=.slice (some ⟨w.heap.size,0,none⟩) 1 1) (hq:QRow w H v q) (hz:I64 z) (hH:H≤w.heap.size) (hn:q.length+1<4294967296)
  (hK:∀ v' w',QRow w' H v' (q++[z])→Chg v.ownBlock.toList w w'→wpList Try.prog ops Q rest (a.put o.dst v') w'):wpList Try.prog ops Q (o :: rest) a (w.alloc (.cells #[.int .i64 z] 3)):=by
 refine wpList_plain hg fun K hK'=>?_
 obtain⟨v',w',hr,r1,r2⟩:=run_qput hq hz hH hn o.type
 unfold Oper.wp execOp
 simp only[ho,resolve,invoke,builtin,Sem.run_bind,Sem.run_pure,Result.andThen_ok,List.map_toArray,List.map_cons,List.map_nil,hs,hx,hr]
 exact hK' _ _ (hK v' w' r1 r2)
def QAt (w:World) (B H:Nat) (q:List Int):Prop:=∃ v,w.heap[B]?=some (.cells #[v] 25 (0,0))∧QRow w H v q∧H≤B
def QOwn (w:World) (H:Nat) (own:List Nat):Prop:=∀ j∈own,H≤j∧∃ cs t r,w.heap[j]?=some (.cells cs t r)∧(t=3∨t=25)
theorem QRow.own {w:World} {H:Nat} {v:Value} {q:List Int} (h:QRow w H v q):QOwn w H v.ownBlock.toList:=by
 intro j hj
 rcases h.2.2 with ⟨rfl,-⟩ | ⟨g,off,cap,cur,rfl,hg,hh,-⟩
 ·simp[Value.ownBlock] at hj
 simp[Value.ownBlock] at hj
 subst hj
 exact⟨hg,cur,_,_,hh,Or.inl rfl⟩
theorem QRow.shape {w:World} {H:Nat} {v:Value} {q:List Int} (h:QRow w H v q):∃ ao c,v=.slice ao q.length c:=by
 rcases h.2.2 with ⟨rfl,rfl⟩ | ⟨g,off,cap,cur,rfl,-⟩
 ·exact⟨_,_,rfl⟩
 exact⟨_,_,rfl⟩
theorem QRow.ne {w:World} {H B:Nat} {v:Value} {q:List Int} {cs:Array Value} {r:Nat × Nat} (h:QRow w H v q) (hb:w.heap[B]?=some (.cells cs 25 r)):∀ j∈v.ownBlock.toList,j≠B:=by
 intro j hj e
 subst e
 rcases h.2.2 with ⟨rfl,-⟩ | ⟨g,off,cap,cur,rfl,hg,hh,-⟩
 ·simp[Value.ownBlock] at hj
 simp[Value.ownBlock] at hj
 subst hj
 rw[hb] at hh
 simp at hh
theorem QAt.chg {w w':World} {B H:Nat} {q:List Int} {own:List Nat} (h:QAt w B H q) (hc:Chg own w w') (hn:∀ j∈own,∀ cs t r,w.heap[j]?≠some (.cells cs t r)):QAt w' B H q:=by
 obtain⟨v,hb,hq,hH⟩:=h
 refine⟨v,hc.heap hb (fun e=>hn B e _ _ _ hb),hq.chg hc (fun j hj e=>?_),hH⟩
 obtain⟨-,cs,t,r,hh,-⟩:=hq.own j hj
 exact hn j e _ _ _ hh
theorem qput_any (B H:Nat) (q:List Int) (x:Int) (w:World) (hx:I64 x) (hH:H≤w.heap.size) (hn:q.length+1<4294967296) (h:QAt w B H q) :
  Calls Try.prog 80 #[.int .i64 x,.pointer (some ⟨B,0,none⟩)] w fun e w'=>e=.returned (.tuple #[])∧QAt w' B H (q++[x])∧∃ own,QOwn w H own∧Chg own w w':=by
 obtain⟨v,hb,hq,hHB⟩:=h
 have c0:w.cell? ⟨B,0,none⟩=some v:=by rw[cell_of_row _ _ _ _ _ _ hb];rfl
 have z0:w.frozen? ⟨B,0,none⟩=false:=by simp[World.frozen?,hb]
 have HNE:=lh (hq.ne hb)
 have HOW:Hid (QOwn w H (B :: v.ownBlock.toList)):=by
  intro j hj
  rcases List.mem_cons.1 hj with rfl | hj
  ·exact⟨hHB,_,_,_,hb,Or.inr rfl⟩
  exact hq.own j hj
 obtain⟨ao,c,rfl⟩:=hq.shape
 have HQ:=lh hq
 have HB:=lh hb
 have HZ:=lh z0
 have HC0:=lh c0
 clear hq hb
 go_enter Try.func80,Try.ntmps80
 go_wp2_with (at_builtin;refine wl_qput rfl _ _ rfl rfl rfl HQ.out hx hH hn ?_;intro v' w1 r1 c1;have NB:B ∉ (Value.slice ao q.length c).ownBlock.toList:=fun e=>HNE.out B e rfl;have k0:=c1.cell HC0.out NB;have kz:=c1.frozen HC0.out HZ.out NB;have KB:=lh (c1.heap HB.out NB);obtain⟨ao',c',rfl⟩:=r1.shape;have R1:=lh r1;have C1:=lh c1;clear r1 c1 NB)
 refine bodyPost_end (v:=.tuple #[]) (by simp[results,Try.results80,go_sem]) rfl ⟨rfl,⟨_,heap_setCell_same KB.out 0 _,?_,hHB⟩,_,HOW.out,?_⟩
 ·have hr:=R1.out.chg ((Chg.refl [B] w1).setCell (p:=⟨B,0,none⟩) (Or.inl (by simp)) (.slice ao' (q++[x]).length c')) (fun b hb=>by simpa using R1.out.ne KB.out b hb)
  simpa using hr
 exact ((show Chg (Value.slice ao q.length c).ownBlock.toList w w1 from C1.out).mono (fun j hj=>Or.inl (List.mem_cons_of_mem _ hj))).setCell (Or.inl (by simp)) _
theorem qtake_none (B H:Nat) (w:World) (h:QAt w B H []) :
  Calls Try.prog 81 #[.pointer (some ⟨B,0,none⟩)] w fun e w'=>e=.returned (.tuple #[.int .i64 0,.bool false])∧w=w':=by
 obtain⟨v,hb,hq,hHB⟩:=h
 have c0:w.cell? ⟨B,0,none⟩=some v:=by rw[cell_of_row _ _ _ _ _ _ hb];rfl
 obtain⟨ao,c,rfl⟩:=hq.shape
 rw[List.length_nil] at c0
 clear hq hb
 go_enter Try.func81,Try.ntmps81
 go_wp2
 exact bodyPost_ret (v:=.tuple #[.int .i64 0,.bool false]) (by simp[results,Try.results81,go_sem]) rfl ⟨rfl,rfl⟩
theorem qtake_some (B H:Nat) (x:Int) (q:List Int) (w:World) (h:QAt w B H (x :: q)) :
  Calls Try.prog 81 #[.pointer (some ⟨B,0,none⟩)] w fun e w'=>e=.returned (.tuple #[.int .i64 x,.bool true])∧QAt w' B H q∧∃ own,QOwn w H own∧Chg own w w':=by
 obtain⟨v,hb,hq,hHB⟩:=h
 have c0:w.cell? ⟨B,0,none⟩=some v:=by rw[cell_of_row _ _ _ _ _ _ hb];rfl
 have z0:w.frozen? ⟨B,0,none⟩=false:=by simp[World.frozen?,hb]
 have HNE:=hq.ne hb
 have HOW:Hid (QOwn w H [B]):=by
  intro j hj
  simp at hj
  subst hj
  exact⟨hHB,_,_,_,hb,Or.inr rfl⟩
 obtain⟨h1,h2,h3⟩:=hq
 rcases h3 with ⟨-,e⟩ | ⟨g,off,cap,cur,rfl,hg,hh,hnc,hcm,hoc,hcs⟩
 ·cases e
 have hgB:g≠B:=HNE g (by simp[Value.ownBlock])
 have ch:w.cell? ⟨g,off,none⟩=some (.int .i64 x):=by
  rw[cell_of_row w g off cur _ _ hh]
  have:=hcs 0 (by simp)
  simpa using this
 simp only[List.length_cons] at c0 hnc h2
 have fin:∀ off' cap',Hid (off'+cap'≤cur.size∧q.length≤cap'∧cap'≤9223372036854775807∧∀ i,i<q.length→cur[off'+i]?=some (.int .i64 (q.getD i 0)))→Hid (QAt (w.setCell ⟨B,0,none⟩ (.slice (some ⟨g,off',none⟩) q.length cap')) B H q):=by
  intro off' cap' hk
  obtain⟨k1,k2,k3,k4⟩:=hk.out
  refine lh ⟨_,heap_setCell_same hb 0 _,⟨fun y hy=>h1 y (by simp[hy]),by omega,Or.inr ⟨g,off',cap',cur,rfl,hg,?_,k2,k3,k1,k4⟩⟩,hHB⟩
  exact ((Chg.refl [B] w).setCell (p:=⟨B,0,none⟩) (Or.inl (by simp)) (.slice (some ⟨g,off',none⟩) q.length cap')).heap hh (by simpa using hgB)
 have hpos:(0:Int)<((q.length+1:Nat):Int):=by omega
 have hl0:(((q.length+1:Nat):Int)==0)=false:=by rw[beq_eq_false_iff_ne];omega
 have hl1:q.length+1 - 1=q.length:=by omega
 by_cases hcap:1=cap
 ·subst hcap
  have hq0:q.length=0:=by omega
  have HF:=fin off 0 (lh ⟨by omega,by omega,by omega,fun i hi=>by omega⟩)
  clear fin hb hh hcs HNE h1 hg
  go_enter Try.func81,Try.ntmps81
  go_wp2
  refine bodyPost_ret (v:=.tuple #[.int .i64 x,.bool true]) (by simp[results,Try.results81,go_sem]) rfl ⟨rfl,?_,[B],HOW.out,(Chg.refl _ w).setCell (Or.inl (by simp)) _⟩
  have HF2:=HF.out
  rw[hq0] at HF2
  exact HF2
 have HF:=fin (off+1) (cap - 1) (lh ⟨by omega,by omega,by omega,fun i hi=>by
  have:=hcs (i+1) (by simp;omega)
  rw[show off+1+i=off+(i+1) by omega,this]
  simp⟩)
 clear fin hb hh hcs HNE h1 hg
 go_enter Try.func81,Try.ntmps81
 go_wp2
 refine bodyPost_ret (v:=.tuple #[.int .i64 x,.bool true]) (by simp[results,Try.results81,go_sem]) rfl ⟨rfl,HF.out,[B],HOW.out,(Chg.refl _ w).setCell (Or.inl (by simp)) _⟩
theorem queue_any (w:World) :
  Calls Try.prog 68 #[] w fun e w'=>e=.returned (.tuple #[.func (.func 80) #[] #[.pointer (some ⟨w.heap.size,0,none⟩)],.func (.func 81) #[] #[.pointer (some ⟨w.heap.size,0,none⟩)]])∧QAt w' w.heap.size w.heap.size []∧Chg [] w w':=by
 have hmf:∀ (fn:Fn) (first cap:Array Value) (w:World),(Instr.makeFunc fn first cap).run Try.prog w=.ok (.func fn first cap) w:=fun _ _ _ _=>rfl
 have HQ:Hid (QAt (w.alloc (.cells #[.slice none 0 0] 25)) w.heap.size w.heap.size []):=⟨_,heap_alloc_new w _,⟨by simp,by simp,Or.inl ⟨rfl,rfl⟩⟩,Nat.le_refl _⟩
 have HC:=lh ((Chg.refl [] w).alloc (.cells #[.slice none 0 0] 25))
 go_enter Try.func68,Try.ntmps68
 go_wp2
 refine bodyPost_ret (v:=.tuple #[.func (.func 80) #[] #[.pointer (some ⟨w.heap.size,0,none⟩)],.func (.func 81) #[] #[.pointer (some ⟨w.heap.size,0,none⟩)]]) (by simp[results,Try.results68,go_sem]) rfl ⟨rfl,HQ.out,HC.out⟩
end Go.Proofs.Ytbkjljffnkdcjaa
namespace Go.Proofs.Ytbkjljffnkdcjaa.Plain
def left (p:Pt) (f:Int→Option Int):Nat:=(p.v.filter fun u=>(f u).isNone).length
theorem left_put {p:Pt} {f:Int→Option Int} {x c:Int} (hn:p.v.Nodup) (hx:x∈p.v) (hf:f x=none):left p (fun y=>if y=x then some c else f y)+1=left p f:=by
 unfold left
 generalize p.v=l at *
 have none_:∀ {l:List Int},x ∉ l→(l.filter fun u=>(if u=x then some c else f u).isNone)=l.filter fun u=>(f u).isNone:=by
  intro l hl
  refine List.filter_congr fun u hu=>?_
  rw[if_neg (fun e=>hl (by rw[←e];exact hu))]
 induction l with
 | nil=>simp at hx
 | cons y l ih =>
  rw[List.nodup_cons] at hn
  by_cases e:y=x
  ·subst e
   rw[List.filter_cons_of_neg (by simp),List.filter_cons_of_pos (by simp[hf]),none_ hn.1]
   rfl
  have hx':x∈l:=(List.mem_cons.1 hx).resolve_left (fun q=>e q.symm)
  have:=ih hn.2 hx'
  cases hy:f y with
  | none=>rw[List.filter_cons_of_pos (by simp[e,hy]),List.filter_cons_of_pos (by simp[hy]),List.length_cons,List.length_cons];omega
  | some z=>rw[List.filter_cons_of_neg (by simp[e,hy]),List.filter_cons_of_neg (by simp[hy])];exact this
structure Bfs (g:Gr) (p:Pt) (shut a:Int) (f:Int→Option Int) (m:Nat):Prop where
 base:f a≠none
 come:∀ u,f u≠none→Come g p shut a u
 inV:∀ u,f u≠none→u∈p.v
 val:∀ u c,f u=some c→0≤c∧c+(left p f:Int)≤p.v.length
 cnt:m+left p f≤p.v.length
def Done (g:Gr) (p:Pt) (shut:Int) (f:Int→Option Int) (u:Int):Prop:=∀ x,Near g p u x→x≠shut→f x≠none
theorem Bfs.start {g:Gr} {p:Pt} {shut a:Int} (hp:PartOk g p) (ha:a∈p.v):Bfs g p shut a (fun y=>if y=a then some 0 else none) (0+1):=by
 have hl:=left_put (f:=fun _=>none) (c:=0) hp.vn ha rfl
 have h0:left p (fun _=>none)=p.v.length:=by unfold left;rw[List.filter_eq_self.2 (by simp)]
 refine⟨by simp,fun u hu=>?_,fun u hu=>?_,fun u c hu=>?_,by omega⟩
 ·by_cases e:u=a
  ·subst e;exact .here
  simp[e] at hu
 ·by_cases e:u=a
  ·subst e;exact ha
  simp[e] at hu
 by_cases e:u=a
 ·simp[e] at hu;subst hu;omega
 simp[e] at hu
theorem Bfs.add {g:Gr} {p:Pt} {shut a v x c:Int} {f:Int→Option Int} {m:Nat} (h:Bfs g p shut a f m) (hp:PartOk g p) (hx:x∈p.v) (hn:Near g p v x) (hs:x≠shut) (hv:f v=some c) (hf:f x=none):Bfs g p shut a (fun y=>if y=x then some (c+1) else f y) (m+1):=by
 have hl:=left_put (f:=f) (c:=c+1) hp.vn hx hf
 have hc:=h.val v c hv
 have hm:=h.cnt
 refine⟨?_,fun u hu=>?_,fun u hu=>?_,fun u d hu=>?_,by omega⟩
 ·show (if a=x then some (c+1) else f a)≠none
  by_cases e:a=x
  ·simp[e]
  rw[if_neg e];exact h.base
 ·by_cases e:u=x
  ·subst e;exact (h.come v (by rw[hv];simp)).step hn hs
  exact h.come u (by simpa[e] using hu)
 ·by_cases e:u=x
  ·subst e;exact hx
  exact h.inV u (by simpa[e] using hu)
 by_cases e:u=x
 ·simp[e] at hu;subst hu;omega
 have:=h.val u d (by simpa[e] using hu);omega
theorem Done.add {g:Gr} {p:Pt} {shut u x c:Int} {f:Int→Option Int} (h:Done g p shut f u):Done g p shut (fun y=>if y=x then some c else f y) u:=by
 intro z hz hs
 show (if z=x then some c else f z)≠none
 by_cases e:z=x
 ·simp[e]
 rw[if_neg e];exact h z hz hs
theorem near_iff {g:Gr} {p:Pt} (_hp:PartOk g p) {u x:Int}:Near g p u x↔∃ d∈p.darts.filter fun d=>decide (g.tail d=u),g.head d=x:=by
 constructor
 ·rintro ⟨e,he,h | h⟩
  ·have h1:=tail_even g e
   refine⟨2*e,List.mem_filter.2 ⟨mem_darts.2 (by rwa[show 2*e / 2=e by omega]),?_⟩,?_⟩
   ·rw[h1.1,h];simp
   rw[h1.2,h]
  have hd:2*e∈p.darts:=mem_darts.2 (by rwa[show 2*e / 2=e by omega])
  have h1:=tail_even g e
  refine⟨twin (2*e),List.mem_filter.2 ⟨twin_mem hd,?_⟩,?_⟩
  ·rw[tail_twin,h1.2,h];simp
  rw[←tail_twin,twin_twin,h1.1,h]
 rintro ⟨d,hd,rfl⟩
 obtain⟨h1,h2⟩:=List.mem_filter.1 hd
 have h2:g.tail d=u:=by simpa using h2
 rw[←h2]
 exact near_dart h1
theorem Bfs.all {g:Gr} {p:Pt} {shut a:Int} {f:Int→Option Int} {m:Nat} (h:Bfs g p shut a f m) (hd:∀ u,f u≠none→Done g p shut f u) (v:Int):f v≠none↔Come g p shut a v:=by
 refine⟨h.come v,fun hc=>?_⟩
 induction hc with
 | here=>exact h.base
 | step _ hn hs ih=>exact hd _ ih _ hn hs
end Go.Proofs.Ytbkjljffnkdcjaa.Plain
namespace Go.Proofs.Ytbkjljffnkdcjaa
open Go.RowKit Go.Maps
theorem SMap.fresh {w w':World} {b n:Nat} {f:Int→List Int} (h:SMap w b n f) (hc:Chg [] w w'):SMap w' b n f:=by
 obtain⟨D,ho,hD⟩:=h
 refine⟨D,?_,hD⟩
 have hb:b<w.heap.size:=SMap.lt ⟨D,ho,hD⟩
 exact ho.kept (hc.grownBy (row:=none) (by simp)) (by simp) (fun es clock he x hx=>by cases x.val.ownBlock <;> simp)
set_option maxHeartbeats 2000000 in
theorem IMap.put_run {w:World} {b n:Nat} {f:Int→Option Int} (h:IMap w b n f) (hn:n<maxLen) {k v:Int} (hk:I64 k) (hv:I64 v) :
  ∃ w',(Instr.mapUpdate 95 (.map (some b)) (.int .i64 k) (.int .i64 v)).run Try.prog w=.ok () w'∧IMap w' b (n+1) (fun y=>if y=k then some v else f y)∧w.grownBy w' (some b):=by
 obtain⟨D,hown,hD⟩:=h
 obtain⟨w',hr,h1,h2⟩:=hown.update keyedInt Try.underlying95 hn (keyOf_int_mk Try.underlying3 hk) (plainElem_int Try.underlying3 hv)
 refine⟨w',hr,⟨_,h1,fun y hy=>?_⟩,h2⟩
 by_cases e:y=k
 ·subst e
  have hkl:=keyedInt.key (keyOf_int_mk Try.underlying3 hk)
  rw[has_put_same hown.isMap hkl,atKey_put_same hown.isMap hkl]
  simp
 rw[has_put_other (litNe e),atKey_put_other (litNe e)]
 simp only[if_neg e]
 exact hD y hy
theorem wl_insert {ops:Array Oper} {rest:List Oper} {o:Oper} {a:Act} {Q:Exit→Act→World→Prop} {w:World} (hg:o.guard=none) (m x u:Operand) (hop:o.op=Op.insert 95 m x u) {b n:Nat} {f:Int→Option Int} (h:IMap w b n f) (hn:n<maxLen) (hm:a.eval m=.map (some b))
  {k v:Int} (hk:I64 k) (hv:I64 v) (hx:a.eval x=.int .i64 k) (hu:a.eval u=.int .i64 v)
  (hK:∀ w',IMap w' b (n+1) (fun y=>if y=k then some v else f y)→w.grownBy w' (some b)→wpList Try.prog ops Q rest (a.put o.dst undef) w'):wpList Try.prog ops Q (o :: rest) a w:=by
 refine wpList_plain hg fun K hK'=>?_
 obtain⟨w',hr,h1,h2⟩:=h.put_run hn hk hv
 have hk2:=hK' (a.put o.dst undef) w' (hK w' h1 h2)
 unfold Oper.wp
 simp[execOp,hop,hm,hx,hu,hr,Result.andThen,Oper.upon]
 exact hk2
theorem SMap.look_old {w wr:World} {b n:Nat} {f:Int→List Int} (h:SMap w b n f) (hc:Chg [] w wr) (hn:n<4294967296) {k:Int} (hk:I64 k) :
  ∃ v,(Instr.lookup 84 (.map (some b)) (.int .i64 k) false).run Try.prog wr=.ok v wr∧RowAt w (b+1) v (f k):=by
 obtain⟨D,ho,hD⟩:=h
 have hkey:=keyOf_int_mk Try.underlying3 hk
 obtain⟨es,clock,hb,F,hs,hDe,hbb,hlen,hap⟩:=ho
 have hb':=hc.heap hb (by simp)
 rcases Maps.fit_look false keyedInt Try.underlying84 (zeroRow wr) hb' F hkey with ⟨hrun,_,hat⟩ | ⟨e0,y,hm0,h3,hrun,hR,hat,_⟩
 ·refine⟨_,hrun,?_⟩
  have hat2:=hat .nil
  rw[←hDe] at hat2
  have e:=SMap.list (v:=.slice none 0 0) (zs:=[]) (hD k hk) hat2 (World.ownsInts_nil w (b+1) 3 .i64)
  rw[←e]
  exact owns_row (World.ownsInts_nil _ _ _ _) (by simp)
 obtain⟨zs,hoi,rfl⟩:=rowElem_inv hR
 have hat2:=hat .nil
 rw[←hDe] at hat2
 have e:=SMap.list (hD k hk) hat2 hoi
 subst e
 exact⟨_,hrun,owns_row hoi (by have:=hlen e0 hm0 _ hoi;omega)⟩
theorem wl_sread {ops:Array Oper} {rest:List Oper} {o:Oper} {a:Act} {Q:Exit→Act→World→Prop} {w0 w:World} (hg:o.guard=none) (m x:Operand) (hop:o.op=Op.lookup 84 m x false) {b n:Nat} {f:Int→List Int} (h:SMap w0 b n f) (hc:Chg [] w0 w) (hn:n<4294967296) (hm:a.eval m=.map (some b)) {k:Int} (hk:I64 k) (hx:a.eval x=.int .i64 k)
  (hK:∀ v,RowAt w0 (b+1) v (f k)→wpList Try.prog ops Q rest (a.put o.dst v) w):wpList Try.prog ops Q (o :: rest) a w:=by
 refine wpList_plain hg fun K' hK'=>?_
 obtain⟨v,hrun,r1⟩:=h.look_old hc hn hk
 unfold Oper.wp
 simp[execOp,hop,hm,hx,hrun,Result.andThen]
 exact hK' _ _ (hK v r1)
structure RMem (w:World) (gb mp H:Nat) (gv:Array Value) (f:Int→Option Int) (m:Nat) (q:List Int) (wr:World):Prop where
 queue:QAt wr H H q
 chg:Chg [] w wr
 map:IMap wr mp m f
 box:wr.heap[gb]?=some (.cells gv 24 (0,0))
section
variable {w wr w' : World} {gb mp H : Nat} {gv : Array Value} {f f' : Int → Option Int} {m m' : Nat} {q q' : List Int}
theorem RMem.turn (h:RMem w gb mp H gv f m q wr) (hH:w.heap.size≤H) {own:List Nat} (hq:QAt w' H H q') (ho:QOwn wr H own) (hc:Chg own wr w'):RMem w gb mp H gv f m q' w':=by
 refine⟨hq,h.chg.trans hc (fun j hj=>Or.inr (Nat.le_trans hH (ho j hj).1)),h.map.chg hc (fun e=>?_),hc.heap h.box (fun e=>?_)⟩
 ·obtain⟨_,cs,t,r,hh,_⟩:=ho _ e
  exact h.map.ne hh rfl
 obtain⟨_,cs,t,r,hh,ht⟩:=ho _ e
 rw[h.box] at hh
 simp at hh
 obtain⟨_,e2,_⟩:=hh
 rcases ht with q | q <;> (rw[←e2] at q;revert q;decide)
theorem RMem.fresh (h:RMem w gb mp H gv f m q wr) (hc:Chg [] wr w'):RMem w gb mp H gv f m q w' :=
 ⟨h.queue.chg hc (by simp),h.chg.trans hc (by simp),h.map.chg hc (by simp),hc.heap h.box (by simp)⟩
theorem RMem.met (h:RMem w gb mp H gv f m q wr) (hmp:w.heap.size≤mp) (hm:IMap w' mp m' f') (hg:wr.grownBy w' (some mp)):RMem w gb mp H gv f' m' q w':=by
 have hc:Chg [mp] wr w':=(Chg.refl _ _).grown hg (fun j hj=>by cases hj;exact Or.inl (by simp))
 refine⟨h.queue.chg hc (fun j hj cs t r hh=>?_),h.chg.trans hc (fun j hj=>Or.inr (by simp at hj;omega)),hm,hc.heap h.box (fun e=>?_)⟩
 ·simp at hj
  subst hj
  exact h.map.ne hh rfl
 simp at e
 exact h.map.ne h.box e
end
def ROut (g:Plain.Gr) (p:Plain.Pt) (shut a:Int) (f:Int→Option Int) (m:Nat) (t:List Int) (fuel:Nat):Prop :=
 Plain.Bfs g p shut a f m∧(∀ u∈t,f u≠none)∧(∀ u,f u≠none→u∈t∨Plain.Done g p shut f u)∧2*Plain.left p f+t.length≤fuel
def RIn (g:Plain.Gr) (p:Plain.Pt) (shut a:Int) (f:Int→Option Int) (m:Nat) (v:Int) (q L:List Int) (k fuel:Nat):Prop :=
 Plain.Bfs g p shut a f m∧f v≠none∧(∀ u∈q,f u≠none)∧(∀ u,f u≠none→u=v∨u∈q∨Plain.Done g p shut f u)∧2*Plain.left p f+q.length+1≤fuel∧∀ i,i<k→g.head (L.getD i 0)=shut∨f (g.head (L.getD i 0))≠none
theorem ROut.inner {g:Plain.Gr} {p:Plain.Pt} {shut a v:Int} {f:Int→Option Int} {m fuel:Nat} {q:List Int} (h:ROut g p shut a f m (v :: q) fuel) (L:List Int):RIn g p shut a f m v q L 0 fuel:=by
 obtain⟨h1,h2,h3,h4⟩:=h
 refine⟨h1,h2 v (by simp),fun u hu=>h2 u (by simp[hu]),fun u hu=>?_,by simp at h4;omega,by simp⟩
 rcases h3 u hu with q | q
 ·rcases List.mem_cons.1 q with q | q
  ·exact Or.inl q
  exact Or.inr (Or.inl q)
 exact Or.inr (Or.inr q)
theorem RIn.outer {g:Plain.Gr} {p:Plain.Pt} (hp:Plain.PartOk g p) {shut a v:Int} {f:Int→Option Int} {m fuel:Nat} {q:List Int} (h:RIn g p shut a f m v q (p.darts.filter fun d=>decide (g.tail d=v)) (p.darts.filter fun d=>decide (g.tail d=v)).length fuel):ROut g p shut a f m q (fuel - 1):=by
 obtain⟨h1,h2,h3,h4,h5,h6⟩:=h
 refine⟨h1,h3,fun u hu=>?_,by omega⟩
 rcases h4 u hu with e | e | e
 ·subst e
  right
  intro x hx hs
  obtain⟨d,hd,rfl⟩:=(Plain.near_iff hp).1 hx
  obtain⟨i,hi,rfl⟩:=Plain.mem_getD hd
  exact (h6 i hi).resolve_left hs
 ·exact Or.inl e
 exact Or.inr e
theorem RIn.skip {g:Plain.Gr} {p:Plain.Pt} {shut a v:Int} {f:Int→Option Int} {m fuel k:Nat} {q L:List Int} (h:RIn g p shut a f m v q L k fuel) (hk:g.head (L.getD k 0)=shut∨f (g.head (L.getD k 0))≠none):RIn g p shut a f m v q L (k+1) fuel:=by
 obtain⟨h1,h2,h3,h4,h5,h6⟩:=h
 refine⟨h1,h2,h3,h4,h5,fun i hi=>?_⟩
 by_cases e:i=k
 ·subst e;exact hk
 exact h6 i (by omega)
theorem RIn.add {g:Plain.Gr} {p:Plain.Pt} (hp:Plain.PartOk g p) {shut a v x c:Int} {f:Int→Option Int} {m fuel k:Nat} {q L:List Int} (h:RIn g p shut a f m v q L k fuel) (hk:g.head (L.getD k 0)=x) (hx:x∈p.v) (hn:Plain.Near g p v x) (hs:x≠shut) (hv:f v=some c) (hf:f x=none) :
  RIn g p shut a (fun y=>if y=x then some (c+1) else f y) (m+1) v (q++[x]) L (k+1) fuel:=by
 obtain⟨h1,h2,h3,h4,h5,h6⟩:=h
 have hl:=Plain.left_put (f:=f) (c:=c+1) hp.vn hx hf
 have up:∀ u,f u≠none→(if u=x then some (c+1) else f u)≠none:=fun u hu=>by by_cases e:u=x <;> simp[e];simpa[e] using hu
 refine⟨h1.add hp hx hn hs hv hf,up v h2,fun u hu=>?_,fun u hu=>?_,by simp;omega,fun i hi=>?_⟩
 ·rcases List.mem_append.1 hu with q | q
  ·exact up u (h3 u q)
  simp at q;subst q;simp
 ·by_cases e:u=x
  ·exact Or.inr (Or.inl (by simp[e]))
  rcases h4 u (by simpa[e] using hu) with q | q | q
  ·exact Or.inl q
  ·exact Or.inr (Or.inl (by simp[q]))
  exact Or.inr (Or.inr q.add)
 by_cases e:i=k
 ·subst e;right;rw[hk];simp
 exact (h6 i (by omega)).imp id (up _)
end Go.Proofs.Ytbkjljffnkdcjaa
