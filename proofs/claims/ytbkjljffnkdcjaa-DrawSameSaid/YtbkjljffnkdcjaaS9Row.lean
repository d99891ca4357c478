/- Rows of ints of a call's own: appends, stores, literals; lists of lists; calls inside drawn regions. Conditions: what each law says. -/
import Derived.Test.YtbkjljffnkdcjaaS9Rows2
import Derived.Laws.OwnMore
import Derived.Maps.OwnRows
import Derived.Maps.GroupsBeside
import Derived.Test.YtbkjljffnkdcjaaS9GraphB
namespace Go.Proofs.Ytbkjljffnkdcjaa
open Go.RowKit Go.Maps
theorem run_spread {t e:TypeId} {z:Value} {size bytes:Nat} (E:Elem t e z size bytes) {w:World} {B B':Nat} {v u:Value} {n m:Nat} {xs ys:List Value} (hown:w.ownsRow B e size v n xs) (hsrc:w.ownsRow B' e size u m ys) (hB:B≤w.heap.size)
  (h1:∀ y∈ys,y.oneCell'=true) (hn:n+m<68719476736) (ty:TypeId) :
  ∃ v' w',(Builtin.append_ #[t,t] ty #[v,u]).run Try.prog w=.ok v' w'∧w'.ownsRow B e size v' (n+m) (xs++ys)∧Chg v.ownBlock.toList w w'∧(∀ b∈v'.ownBlock.toList,b∈v.ownBlock.toList∨w.heap.size≤b):=by
 obtain⟨i0,hi,hz0,hz1,hz2⟩:=info_parts E.hi
 have hb:=E.hb
 rcases hsrc.2 with ⟨rfl,rfl⟩ | ⟨g,cap,cur,rfl,hg,hh,hnc,hcm,hcs,hys⟩
 ·have hy:ys=[]:=List.length_eq_zero_iff.1 (by rw[hsrc.1];simp)
  subst hy
  exact⟨v,w,run_append_owned_none w B t ty e i0 size E.ht hi v n xs hown,by simpa using hown,Chg.refl _ _,fun b hb=>Or.inl hb⟩
 have hl:=hsrc.1
 have hnews:∀ j y,ys[j]?=some y→w.cell? ((⟨g,0,none⟩:Addr).add j)=some y:=by
  intro j y hy
  have hadd:(⟨g,0,none⟩:Addr).add j=⟨g,j,none⟩:=by unfold Addr.add;split <;> simp_all
  rw[hadd,cell_of_row w _ j cur e (0,0) hh]
  rw[←hys] at hy
  rw[List.getElem?_take] at hy
  split at hy
  ·simpa using hy
  cases hy
 obtain⟨v',w',hr,h2,h3,-,h5⟩:=run_append_own_at (P:=Try.prog) w B t ty e i0 z size bytes E.ht hi hz0 hz1 hz2 E.hz E.h0 v n xs hown ⟨g,0,none⟩ m cap ys hl hnews h1 (by unfold maxLen;omega) (Nat.le_trans (Nat.mul_le_mul_left _ hb) (by omega)) hB
 refine⟨v',w',hr,h2,(Chg.refl _ _).grown h3 (fun j hj=>Or.inl (by rw[hj];simp)),fun b hb=>?_⟩
 rcases h5 with q | q
 ·exact Or.inl (by rw[←q];exact hb)
 rw[q] at hb
 simp at hb
 exact Or.inr (by omega)
theorem wp_spread {t e:TypeId} {z:Value} {size bytes:Nat} (E:Elem t e z size bytes) {o:Oper} {a:Act} {K:Act→World→Prop} {Q:Exit→Act→World→Prop} {w:World} (s x:Operand) (ho:o.op=.call { callee:=.builtin .append,args:=#[s,x],argTypes:=#[t,t] })
  {B B':Nat} {v u:Value} {n m:Nat} {xs ys:List Value} (hs:a.eval s=v) (hx:a.eval x=u) (hown:w.ownsRow B e size v n xs) (hsrc:w.ownsRow B' e size u m ys) (hB:B≤w.heap.size)
  (h1:∀ y∈ys,y.oneCell'=true) (hn:n+m<68719476736)
  (hK:∀ v' w',w'.ownsRow B e size v' (n+m) (xs++ys)→Chg v.ownBlock.toList w w'→(∀ b∈v'.ownBlock.toList,b∈v.ownBlock.toList∨w.heap.size≤b)→K (a.put o.dst v') w'):o.wp Try.prog a w K Q:=by
 obtain⟨v',w',hr,r1,r2,r3⟩:=run_spread E hown hsrc hB h1 hn o.type
 unfold Oper.wp execOp
 simp only[ho,resolve,invoke,builtin,Sem.run_bind,Sem.run_pure,Result.andThen_ok,List.map_toArray,List.map_cons,List.map_nil,hs,hx,hr]
 exact hK v' w' r1 r2 r3
def RowAt (w:World) (B:Nat) (v:Value) (l:List Int):Prop:=w.ownsRow B 3 1 v l.length (ints l)∧(∀ x∈l,I64 x)∧l.length<4294967296
theorem RowAt.ints {w:World} {B:Nat} {v:Value} {l:List Int} (h:RowAt w B v l):IntsAt w v l:=by
 obtain⟨h,h1,h2⟩:=h
 rcases h.2 with ⟨rfl,h0⟩ | ⟨g,cap,cur,rfl,hg,hh,hnc,hcm,hcs,hys⟩
 ·have:l=[]:=List.length_eq_zero_iff.1 h0
  subst this
  exact IntsAt.nil _
 refine⟨_,cap,rfl,h1,by omega,fun _=>⟨g,0,rfl,fun i hi=>?_⟩⟩
 rw[Nat.zero_add,cell_of_row w _ i cur 3 (0,0) hh]
 have:cur.toList[i]?=some (.int .i64 (l.getD i 0)):=by
  have q:(Go.Proofs.Ytbkjljffnkdcjaa.ints l)[i]?=some (.int .i64 (l.getD i 0)):=by simp[Go.Proofs.Ytbkjljffnkdcjaa.ints,List.getD,hi]
  rw[←hys,List.getElem?_take,if_pos (by omega)] at q
  exact q
 simpa using this
theorem RowAt.chg {w w':World} {B:Nat} {v:Value} {l:List Int} {own:List Nat} (h:RowAt w B v l) (hc:Chg own w w') (hn:∀ b∈v.ownBlock.toList,b ∉ own):RowAt w' B v l :=
 ⟨owns_chg h.1 hc (fun b hb=>hn b (by rw[hb];simp)),h.2⟩
theorem RowAt.low {w:World} {B:Nat} {v:Value} {l:List Int} (h:RowAt w B v l):∀ b∈v.ownBlock.toList,B≤b∧b<w.heap.size:=fun b hb=>h.1.lt b (by simpa using hb)
theorem foot_slice (ao:Option Addr) (n c:Nat):foot (.slice ao n c)=(Value.slice ao n c).ownBlock.toList:=rfl
theorem RowAt.shape {w:World} {B:Nat} {v:Value} {l:List Int} (h:RowAt w B v l):∃ ao c,v=.slice ao l.length c:=owns_shape h.1
theorem RowAt.foot {w:World} {B:Nat} {v:Value} {l:List Int} (h:RowAt w B v l):foot v=v.ownBlock.toList:=by
 obtain⟨ao,c,rfl⟩:=h.shape
 rfl
theorem ints_ones {l:List Int}:∀ y∈ints l,y.oneCell'=true:=by
 intro y hy
 simp only[ints,List.mem_map] at hy
 obtain⟨x,-,rfl⟩:=hy
 rfl
theorem wp_cat {o:Oper} {a:Act} {K:Act→World→Prop} {Q:Exit→Act→World→Prop} {w:World} (s x:Operand) (ho:o.op=.call { callee:=.builtin .append,args:=#[s,x],argTypes:=#[25,25] })
  {B B':Nat} {v u:Value} {l m:List Int} (hs:a.eval s=v) (hx:a.eval x=u) (h1:RowAt w B v l) (h2:RowAt w B' u m) (hB:B≤w.heap.size) (hn:l.length+m.length<4294967296)
  (hK:∀ v' w',RowAt w' B v' (l++m)→Chg (foot v) w w'→(∀ b∈foot v',b∈foot v∨w.heap.size≤b)→K (a.put o.dst v') w'):o.wp Try.prog a w K Q :=
 wp_spread elemInt s x ho hs hx h1.1 h2.1 hB ints_ones (by omega) fun v' w' r1 r2 r3=>by
  have hr:RowAt w' B v' (l++m):=⟨by rw[List.length_append];simpa[ints] using r1,fun y hy=>(List.mem_append.1 hy).elim (h1.2.1 y) (h2.2.1 y),by rw[List.length_append];exact hn⟩
  exact hK v' w' hr (by rw[h1.foot];exact r2) (fun b hb=>by rw[h1.foot];exact r3 b (by rw[←hr.foot];exact hb))
theorem RowAt.base {w:World} {B B':Nat} {v:Value} {l:List Int} (h:RowAt w B' v l) (hB:B≤B'):RowAt w B v l:=by
 obtain⟨⟨h0,h1⟩,h2⟩:=h
 refine⟨⟨h0,h1.imp id ?_⟩,h2⟩
 rintro ⟨g,cap,cur,e,q,r⟩
 exact⟨g,cap,cur,e,by omega,r⟩
section
variable {ops : Array Oper} {Q : Exit → Act → World → Prop} {fr : (Nat → Value) → Act} {z : Nat} {fin : List Nat} {w1 : World} {i : Nat} {rest : List (Oper × Info)} {L : List (Value → World → Prop)} {o : Oper} {d : Info}
end
theorem RowAt.some {w:World} {B:Nat} {ao:Option Addr} {n c:Nat} {l:List Int} (h:RowAt w B (.slice ao n c) l) (hl:0<l.length):∃ g,ao=some ⟨g,0,none⟩∧∀ i,i<l.length→w.cell? ⟨g,i,none⟩=.some (.int .i64 (l.getD i 0)):=by
 rcases h.1.2 with ⟨e,h0⟩ | ⟨g,cap,cur,e,-,hh,-⟩
 ·omega
 obtain⟨ao',c',e1,h1,h2,h3⟩:=h.ints
 obtain⟨b,off,rfl,h4⟩:=h3 (by intro q;rw[q] at hl;simp at hl)
 simp only[Value.slice.injEq] at e e1
 obtain⟨rfl,-,-⟩:=e
 obtain⟨e2,-,-⟩:=e1
 simp only[Option.some.injEq,Addr.mk.injEq] at e2
 obtain⟨rfl,rfl,-⟩:=e2
 exact⟨_,rfl,fun i hi=>by simpa using h4 i hi⟩
theorem wl_cat {ops:Array Oper} {rest:List Oper} {o:Oper} {a:Act} {Q:Exit→Act→World→Prop} {w:World} (hg:o.guard=none) (s x:Operand) (ho:o.op=.call { callee:=.builtin .append,args:=#[s,x],argTypes:=#[25,25] })
  {B B':Nat} {v u:Value} {l m:List Int} (hs:a.eval s=v) (hx:a.eval x=u) (h1:RowAt w B v l) (h2:RowAt w B' u m) (hB:B≤w.heap.size) (hn:l.length+m.length<4294967296)
  (hK:∀ v' w',RowAt w' B v' (l++m)→Chg (foot v) w w'→(∀ b∈foot v',b∈foot v∨w.heap.size≤b)→wpList Try.prog ops Q rest (a.put o.dst v') w'):wpList Try.prog ops Q (o :: rest) a w :=
 wpList_plain hg fun _ hK'=>wp_cat s x ho hs hx h1 h2 hB hn fun v' w' r1 r2 r3=>hK' _ _ (hK v' w' r1 r2 r3)
theorem RowAt.set {w:World} {B g n c:Nat} {l:List Int} (h:RowAt w B (.slice (.some ⟨g,0,none⟩) n c) l) (i:Nat) (x:Int) (hx:I64 x):RowAt (w.setCell ⟨g,i,none⟩ (.int .i64 x)) B (.slice (.some ⟨g,0,none⟩) n c) (l.set i x):=by
 obtain⟨ao,c',e⟩:=h.shape
 simp only[Value.slice.injEq] at e
 obtain⟨-,rfl,-⟩:=e
 refine⟨?_,fun y hy=>?_,by rw[List.length_set];exact h.2.2⟩
 ·have:=(h.1.stored i (.int .i64 x)).1
  rw[List.length_set,_root_.Go.Proofs.Ytbkjljffnkdcjaa.ints,List.map_set]
  exact this
 rcases List.mem_or_eq_of_mem_set hy with q | q
 ·exact h.2.1 y q
 rw[q];exact hx
theorem RowAt.free {w:World} {B g n c:Nat} {l:List Int} (h:RowAt w B (.slice (.some ⟨g,0,none⟩) n c) l) (hl:0<l.length) (i:Nat):w.frozen? ⟨g,i,none⟩=false:=by
 rcases h.1.2 with ⟨e,h0⟩ | ⟨g',cap,cur,e,-,hh,-⟩
 ·omega
 simp only[Value.slice.injEq,Option.some.injEq,Addr.mk.injEq] at e
 obtain⟨⟨rfl,-⟩,-⟩:=e
 simp[World.frozen?,hh]
theorem owns_base {w:World} {B B':Nat} {e:TypeId} {size:Nat} {v:Value} {n:Nat} {xs:List Value} (h:w.ownsRow B' e size v n xs) (hB:B≤B'):w.ownsRow B e size v n xs:=by
 obtain⟨h0,h1⟩:=h
 refine⟨h0,h1.imp id ?_⟩
 rintro ⟨g,cap,cur,e,q,r⟩
 exact⟨g,cap,cur,e,by omega,r⟩
theorem wl_make0 {ops:Array Oper} {rest:List Oper} {o:Oper} {a:Act} {Q:Exit→Act→World→Prop} {w:World} (hg:o.guard=none) (l c:Operand) (hop:o.op=Op.makeSlice 25 l c) {B n:Nat} (hl:a.eval l=.int .i64 0) (hc:a.eval c=.int .i64 n) (hB:B≤w.heap.size) (hn:n<4294967296)
  (hK:∀ v w',RowAt w' B v []→Chg [] w w'→(∀ b∈foot v,w.heap.size≤b)→wpList Try.prog ops Q rest (a.put o.dst v) w'):wpList Try.prog ops Q (o :: rest) a w:=by
 obtain⟨i0,hi,hz0,hz1,hz2⟩:=info_parts elemInt.hi
 refine wpList_make_own w hg l c 25 hop B 3 i0 (.int .i64 0) 1 elemInt.ht hi hz0 hz1 .i64 .i64 (n:Int) n hl hc rfl ?_ (by unfold maxLen;omega) hB (fun w' h1 h2=>hK _ w' ⟨h1,by simp,by simp⟩ ((Chg.refl _ _).grown h2 (by simp)) (by simp[foot,Value.ownBlock]))
 rw[hz2]
 omega
theorem run_app_read {w:World} {B:Nat} {v u:Value} {l m:List Int} (h1:RowAt w B v l) (h2:IntsAt w u m) (hB:B≤w.heap.size) (hn:l.length+m.length<4294967296) (ty:TypeId) :
  ∃ v' w',(Builtin.append_ #[25,25] ty #[v,u]).run Try.prog w=.ok v' w'∧RowAt w' B v' (l++m)∧Chg (foot v) w w'∧(∀ b∈foot v',b∈foot v∨w.heap.size≤b):=by
 obtain⟨i0,hi,hz0,hz1,hz2⟩:=info_parts elemInt.hi
 have hb:=elemInt.hb
 obtain⟨ao,cap,rfl,hsm,hml,hc⟩:=h2
 have fin:∀ (ad:Addr),ao=some ad→(∀ j y,(ints m)[j]?=some y→w.cell? (ad.add j)=some y)→∃ v' w',(Builtin.append_ #[25,25] ty #[v,.slice ao m.length cap]).run Try.prog w=.ok v' w'∧RowAt w' B v' (l++m)∧Chg (foot v) w w'∧(∀ b∈foot v',b∈foot v∨w.heap.size≤b):=by
  rintro ad rfl hnews
  obtain⟨v',w',hr,r2,r3,-,r5⟩:=run_append_own_at (P:=Try.prog) w B 25 ty 3 i0 (.int .i64 0) 1 8 elemInt.ht hi hz0 hz1 hz2 elemInt.hz elemInt.h0 v l.length (ints l) h1.1 ad m.length cap (ints m) (by simp[ints]) hnews ints_ones (by unfold maxLen;omega) (Nat.le_trans (Nat.mul_le_mul_left _ (Nat.le_refl _)) (by omega)) hB
  have hrow:RowAt w' B v' (l++m):=⟨by rw[List.length_append];simpa[ints] using r2,fun y hy=>(List.mem_append.1 hy).elim (h1.2.1 y) (hsm y),by rw[List.length_append];exact hn⟩
  refine⟨v',w',hr,hrow,(Chg.refl _ _).grown r3 (fun j hj=>Or.inl (by rw[h1.foot,hj];simp)),fun b hb=>?_⟩
  rw[hrow.foot] at hb
  rw[h1.foot]
  rcases r5 with q | q
  ·exact Or.inl (by rw[←q];exact hb)
  rw[q] at hb
  simp at hb
  exact Or.inr (by omega)
 cases ao with
 | none =>
  have hm0:m=[]:=by
   cases m with
   | nil=>rfl
   | cons x r=>obtain⟨b,off,e,-⟩:=hc (by simp);cases e
  subst hm0
  refine⟨v,w,?_,by simpa using h1,Chg.refl _ _,fun b hb=>Or.inl hb⟩
  rcases h1.1.2 with ⟨rfl,_⟩ | ⟨g,cap2,cur,rfl,_,_,hnc,_⟩
  ·simp[Builtin.append_,run_underlying elemInt.ht,sizeOf,typeInfo,hi,Builtin.lenOf,Builtin.firstCells]
  simp[Builtin.append_,run_underlying elemInt.ht,sizeOf,typeInfo,hi,Builtin.lenOf,Builtin.firstCells,hnc,storeCells]
 | some ad =>
  by_cases hm0:m=[]
  ·subst hm0
   exact fin ad rfl (by simp[ints])
  obtain⟨b,off,e,hcc⟩:=hc hm0
  cases e
  refine fin ⟨b,off,none⟩ rfl fun j y hy=>?_
  have hadd:(⟨b,off,none⟩:Addr).add j=⟨b,off+j,none⟩:=by unfold Addr.add;split <;> simp_all
  have hj:j<m.length:=by have:=(List.getElem?_eq_some_iff.1 hy).1;simpa[ints] using this
  rw[hadd,hcc j hj,←hy]
  simp[ints,List.getD,hj]
theorem wl_app_read {ops:Array Oper} {rest:List Oper} {o:Oper} {a:Act} {Q:Exit→Act→World→Prop} {w:World} (hg:o.guard=none) (s x:Operand) (ho:o.op=.call { callee:=.builtin .append,args:=#[s,x],argTypes:=#[25,25] })
  {B:Nat} {v u:Value} {l m:List Int} (hs:a.eval s=v) (hx:a.eval x=u) (h1:RowAt w B v l) (h2:IntsAt w u m) (hB:B≤w.heap.size) (hn:l.length+m.length<4294967296)
  (hK:∀ v' w',RowAt w' B v' (l++m)→Chg (foot v) w w'→(∀ b∈foot v',b∈foot v∨w.heap.size≤b)→wpList Try.prog ops Q rest (a.put o.dst v') w'):wpList Try.prog ops Q (o :: rest) a w:=by
 refine wpList_plain hg fun K hK'=>?_
 obtain⟨v',w',hr,r1,r2,r3⟩:=run_app_read h1 h2 hB hn o.type
 unfold Oper.wp execOp
 simp only[ho,resolve,invoke,builtin,Sem.run_bind,Sem.run_pure,Result.andThen_ok,List.map_toArray,List.map_cons,List.map_nil,hs,hx,hr]
 exact hK' _ _ (hK v' w' r1 r2 r3)
theorem wp_app_readK {o:Oper} {a:Act} {K:Act→World→Prop} {Q:Exit→Act→World→Prop} {w:World} (s x:Operand) (ho:o.op=.call { callee:=.builtin .append,args:=#[s,x],argTypes:=#[25,25] })
  {B:Nat} {v u:Value} {l m:List Int} (hs:a.eval s=v) (hx:a.eval x=u) (h1:RowAt w B v l) (h2:IntsAt w u m) (hB:B≤w.heap.size) (hn:l.length+m.length<4294967296)
  (hK:∀ v' w',RowAt w' B v' (l++m)→Chg (foot v) w w'→(∀ b∈foot v',b∈foot v∨w.heap.size≤b)→K (a.put o.dst v') w'):o.wp Try.prog a w K Q:=by
 obtain⟨v',w',hr,r1,r2,r3⟩:=run_app_read h1 h2 hB hn o.type
 unfold Oper.wp execOp
 simp only[ho,resolve,invoke,builtin,Sem.run_bind,Sem.run_pure,Result.andThen_ok,List.map_toArray,List.map_cons,List.map_nil,hs,hx,hr]
 exact hK v' w' r1 r2 r3
theorem row_kind {w:World} {B:Nat} {v:Value} {l:List Int} (h:RowAt w B v l):∀ j∈foot v,∃ cs r,w.heap[j]?=some (.cells cs 3 r):=by
 intro j hj
 rw[h.foot] at hj
 rcases h.1.2 with ⟨rfl,_⟩ | ⟨g,c,cur,rfl,hb,hh,_⟩
 ·simp[Value.ownBlock] at hj
 simp[Value.ownBlock] at hj
 subst hj
 exact⟨_,_,hh⟩
namespace Plain
def lst (l:List Int):Nat→Nat
 | 0=>0
 | k+1=>if l.getD k 0<l.getD (lst l k) 0 then k else lst l k
theorem lst_lt {l:List Int} (h:0<l.length):∀ k,k≤l.length→lst l k<l.length
 | 0,_=>h
 | k+1,hk=>by
  unfold lst
  split
  ·omega
  exact lst_lt h k (by omega)
def first (l:List Int):List Int:=l.drop (lst l l.length)++l.take (lst l l.length)
end Plain
theorem dart_even (g:Plain.Gr) (e:Nat):g.tail ((2*e:Nat):Int)=(g.ends e).1∧g.head ((2*e:Nat):Int)=(g.ends e).2:=by
 unfold Plain.Gr.tail Plain.Gr.head Plain.Gr.at
 rw[if_pos (by omega),if_pos (by omega),show (((2*e:Nat):Int) / 2).toNat=e by omega]
 exact⟨rfl,rfl⟩
theorem dart_odd (g:Plain.Gr) (e:Nat):g.tail ((2*e+1:Nat):Int)=(g.ends e).2∧g.head ((2*e+1:Nat):Int)=(g.ends e).1:=by
 unfold Plain.Gr.tail Plain.Gr.head Plain.Gr.at
 rw[if_neg (by omega),if_neg (by omega),show (((2*e+1:Nat):Int) / 2).toNat=e by omega]
 exact⟨rfl,rfl⟩
theorem quo_even (e:Nat):Int.tmod ((2*e:Nat):Int) 2=0∧Int.tdiv ((2*e:Nat):Int) 2=(e:Int):=by
 rw[Int.tmod_eq_emod_of_nonneg (by omega),Int.tdiv_eq_ediv_of_nonneg (by omega)]
 omega
theorem quo_odd (e:Nat):Int.tmod ((2*e+1:Nat):Int) 2=1∧Int.tdiv ((2*e+1:Nat):Int) 2=(e:Int):=by
 rw[Int.tmod_eq_emod_of_nonneg (by omega),Int.tdiv_eq_ediv_of_nonneg (by omega)]
 omega
theorem target_any (v:Value) (g:Plain.Gr) (d:Nat) (w:World) (hd:d / 2<g.e.length) (hm:g.e.length<4294967296) (h:GrAt w v g) :
  Calls Try.prog 50 #[v,.int .i64 d] w fun e w'=>e=.returned (.int .i64 (g.head d))∧Chg [] w w':=by
 obtain⟨eo,cap,rfl,-,-,-,hcell⟩:=h
 obtain⟨b,off,rfl,hc0,hc1⟩:=hcell (d / 2) hd
 have HC1:=lh ((Chg.refl [] w).alloc (.cells #[.int .i64 g.n,.slice (some ⟨b,off,none⟩) g.e.length cap] 24))
 obtain⟨e,he⟩:∃ e,d / 2=e:=⟨_,rfl⟩
 rw[he] at hd hc0 hc1
 have c0:=fun o=>cellNew hc0 o
 have c1:=fun o=>cellNew hc1 o
 clear hcell hc0 hc1
 rcases (show d=2*e∨d=2*e+1 by omega) with rfl | rfl
 ·obtain⟨q1,q2⟩:=quo_even e
  have HE:=lh (dart_even g e).2
  rw[HE.out]
  clear he
  generalize ((2*e:Nat):Int)=dd at *
  generalize (g.ends e).1=x at *
  generalize (g.ends e).2=y at *
  go_enter Try.func50,Try.ntmps50
  go_wp2
  go_ret
  exact⟨rfl,HC1.out⟩
 obtain⟨q1,q2⟩:=quo_odd e
 have HE:=lh (dart_odd g e).2
 rw[HE.out]
 clear he
 generalize ((2*e+1:Nat):Int)=dd at *
 generalize (g.ends e).1=x at *
 generalize (g.ends e).2=y at *
 go_enter Try.func50,Try.ntmps50
 go_wp2
 go_ret
 exact⟨rfl,HC1.out⟩
end Go.Proofs.Ytbkjljffnkdcjaa
namespace Go.Proofs.Ytbkjljffnkdcjaa
open Go.RowKit Go.Maps Go.ChangeShapes
def SMap (w:World) (b n:Nat) (f:Int→List Int):Prop :=
 ∃ D:DataW Unit,w.ownsGroups Try.prog 3 (b+1) 3 .i64 b n D ∧
  ∀ x,I64 x→(f x=[]∧D.atKey (.int .i64 x) .nil=.nil)∨D.atKey (.int .i64 x) .nil=.slice (lits .i64 (f x)) []
theorem zeroRow (w:World):(zeroValue 25).run Try.prog w=.ok (.slice none 0 0) w:=by kernel_rfl
theorem SMap.made (w:World):SMap (w.alloc (.map #[] 0)) w.heap.size 0 (fun _=>[]) :=
 ⟨.map [],World.ownsGroups_made _ _ _ _ _,fun _ _=>Or.inl ⟨rfl,rfl⟩⟩
theorem SMap.lt {w:World} {b n:Nat} {f:Int→List Int} (h:SMap w b n f):b<w.heap.size:=by
 obtain⟨D,⟨es,clock,hb,-⟩,-⟩:=h
 exact (Array.getElem?_eq_some_iff.1 hb).1
theorem lits_inj {a c:List Int} (h:(lits .i64 a:List (DataW Unit))=lits .i64 c):a=c:=by
 induction a generalizing c with
 | nil=>cases c with
  | nil=>rfl
  | cons _ _=>simp[lits] at h
 | cons x a ih=>cases c with
  | nil=>simp[lits] at h
  | cons y c =>
   simp only[lits,List.map_cons,List.cons.injEq] at h
   obtain⟨h1,h2⟩:=h
   have:x=y:=by simpa using h1
   rw[this,ih h2]
theorem SMap.list {w:World} {f:Int→List Int} {D:DataW Unit} {x:Int} {v:Value} {zs:List Int} {base:Nat} (h:(f x=[]∧D.atKey (.int .i64 x) .nil=.nil)∨D.atKey (.int .i64 x) .nil=.slice (lits .i64 (f x)) []) (hat:D.atKey (.int .i64 x) .nil=rowDatum .i64 v zs) (ho:w.ownsInts base 3 .i64 v zs):zs=f x:=by
 rcases ho.datum (H:=Unit) with ⟨e,rfl⟩ | e
 ·rw[e] at hat
  rcases h with ⟨h1,_⟩ | h2
  ·exact h1.symm
  rw[hat] at h2;cases h2
 rw[e] at hat
 rcases h with ⟨_,h2⟩ | h2
 ·rw[hat] at h2;cases h2
 rw[hat] at h2
 simp only[DataW.slice.injEq,and_true] at h2
 exact lits_inj h2
def SBack (w:World) (b n:Nat) (f:Int→List Int) (k:Int) (v:Value):Prop :=
 ∀ (w1:World) (v':Value) (x:Int),RowAt w1 (b+1) v' (f k++[x])→Chg (foot v) w w1→(∀ j∈foot v',j∈foot v∨w.heap.size≤j) →
  ∃ w2,(Instr.mapUpdate 84 (.map (some b)) (.int .i64 k) v').run Try.prog w1=.ok () w2∧SMap w2 b (n+1) (fun y=>if y=k then f k++[x] else f y)∧Chg [b] w1 w2
theorem owns_row {w:World} {B:Nat} {v:Value} {l:List Int} (h:w.ownsInts B 3 .i64 v l) (hn:l.length<4294967296):RowAt w B v l:=⟨h.1,h.2,hn⟩
theorem row_owns {w:World} {B:Nat} {v:Value} {l:List Int} (h:RowAt w B v l):w.ownsInts B 3 .i64 v l:=⟨h.1,h.2.1⟩
theorem SMap.look {w:World} {b n:Nat} {f:Int→List Int} (h:SMap w b n f) (hn:n<4294967296) {k:Int} (hk:I64 k) :
  ∃ v,(Instr.lookup 84 (.map (some b)) (.int .i64 k) false).run Try.prog w=.ok v w∧RowAt w (b+1) v (f k)∧(f k).length≤n∧SBack w b n f k v:=by
 obtain⟨D,ho,hD⟩:=h
 have hkey:=keyOf_int_mk Try.underlying3 hk
 obtain⟨v,zs,hr,hat,hoi,hzl,hback⟩:=ho.at keyedInt Try.underlying84 (zeroRow w) (by unfold maxLen;omega) hkey
 obtain rfl:=SMap.list (hD k hk) hat hoi
 refine⟨v,hr,owns_row hoi (by omega),hzl,fun w1 v' x hrow hc hf=>?_⟩
 have hfo:foot v=v.ownBlock.toList:=(owns_row hoi (by omega)).foot
 have hfo':foot v'=v'.ownBlock.toList:=hrow.foot
 have hgr:w.grownBy w1 v.ownBlock:=hc.grownBy (fun j hj=>by rw[hfo] at hj;exact (show v.ownBlock=some j by simpa using hj).symm)
 obtain⟨g,c,e⟩:=owns_some hrow.1 (by simp)
 have hloc:v'.ownBlock=v.ownBlock∨∃ g,v'.ownBlock=some g∧w.heap.size≤g:=by
  have hb:v'.ownBlock=some g:=by rw[e];rfl
  rcases hf g (by rw[hfo',hb];simp) with q | q
  ·left
   rw[hfo] at q
   rw[hb]
   exact (show v.ownBlock=some g by simpa using q).symm
  exact Or.inr ⟨g,hb,q⟩
 obtain⟨w2,hr2,h2,h3⟩:=hback w1 v' (f k++[x]) hgr (row_owns hrow) (by simp;omega) hloc
 refine⟨w2,hr2,⟨_,h2,fun y hy=>?_⟩,(Chg.refl _ _).grown h3 (fun j hj=>by cases hj;exact Or.inl (by simp))⟩
 have hdat:(rowDatum .i64 v' (f k++[x]):DataW Unit)=.slice (lits .i64 (f k++[x])) []:=(row_owns hrow).datum_pos (by simp)
 obtain⟨es,clock,hbm,F,hs,hDe,-⟩:=ho
 by_cases e1:y=k
 ·subst e1
  right
  rw[atKey_put_same ⟨_,hDe⟩ (keyedInt.key hkey),hdat]
  simp
 rw[atKey_put_other (litNe e1)]
 simp only[if_neg e1]
 exact hD y hy
section
variable {ops : Array Oper} {rest : List Oper} {o : Oper} {a : Act} {Q : Exit → Act → World → Prop} {w : World}
theorem wl_slook (hg:o.guard=none) (m x:Operand) (hop:o.op=Op.lookup 84 m x false) {b n:Nat} {f:Int→List Int} (h:SMap w b n f) (hn:n<4294967296) (hm:a.eval m=.map (some b)) {k:Int} (hk:I64 k) (hx:a.eval x=.int .i64 k)
  (hK:∀ v,RowAt w (b+1) v (f k)→(f k).length≤n→SBack w b n f k v→wpList Try.prog ops Q rest (a.put o.dst v) w):wpList Try.prog ops Q (o :: rest) a w:=by
 refine wpList_plain hg fun K' hK'=>?_
 obtain⟨v,hrun,r1,r2,r3⟩:=h.look hn hk
 unfold Oper.wp
 simp[execOp,hop,hm,hx,hrun,Result.andThen]
 exact hK' _ _ (hK v r1 r2 r3)
theorem wl_sback {w0:World} (hg:o.guard=none) (m x u:Operand) (hop:o.op=Op.mapUpdate 84 m x u) {b n:Nat} {f:Int→List Int} {k z:Int} {v v':Value} (hb:SBack w0 b n f k v) (hm:a.eval m=.map (some b)) (hx:a.eval x=.int .i64 k) (hu:a.eval u=v')
  (hrow:RowAt w (b+1) v' (f k++[z])) (hc:Chg (foot v) w0 w) (hf:∀ j∈foot v',j∈foot v∨w0.heap.size≤j)
  (hK:∀ w2,SMap w2 b (n+1) (fun y=>if y=k then f k++[z] else f y)→Chg [b] w w2→wpList Try.prog ops Q rest (a.put o.dst undef) w2):wpList Try.prog ops Q (o :: rest) a w:=by
 refine wpList_plain hg fun K' hK'=>?_
 obtain⟨w2,hrun,r1,r2⟩:=hb w v' z hrow hc hf
 unfold Oper.wp
 simp[execOp,hop,hm,hx,hu,hrun,Result.andThen]
 exact hK' _ _ (hK w2 r1 r2)
end
end Go.Proofs.Ytbkjljffnkdcjaa
namespace Go.Proofs.Ytbkjljffnkdcjaa
open Go.RowKit Go.Maps
namespace Plain
def outs (g:Gr) (p:Pt) (k:Nat) (v:Int):List Int:=(Pt.darts ⟨[],p.e.take k⟩).filter fun d=>decide (g.tail d=v)
theorem outs_zero (g:Gr) (p:Pt):outs g p 0=fun _=>[]:=by funext v;simp[outs,Pt.darts]
theorem outs_succ {g:Gr} {p:Pt} {k e:Nat} (hk:k<p.e.length) (he:p.e.getD k 0=(e:Int)) :
  outs g p (k+1)=fun v=>outs g p k v++((if (g.ends e).1=v then [2*(e:Int)] else [])++(if (g.ends e).2=v then [2*(e:Int)+1] else [])):=by
 funext v
 have e1:p.e.take (k+1)=p.e.take k++[(e:Int)]:=by
  rw[List.take_succ_eq_append_getElem hk,←he]
  simp[List.getD,hk]
 unfold outs Pt.darts
 rw[e1,List.flatMap_append,List.filter_append]
 congr 1
 have h1:g.tail (2*(e:Int))=(g.ends e).1:=by have:=(dart_even g e).1;simpa using this
 have h2:g.tail (2*(e:Int)+1)=(g.ends e).2:=by have:=(dart_odd g e).1;simpa using this
 simp only[List.flatMap_cons,List.flatMap_nil,List.append_nil,List.filter_cons,List.filter_nil,h1,h2,decide_eq_true_eq]
 split <;> split <;> rfl
theorem outs_all (g:Gr) (p:Pt) (v:Int):outs g p p.e.length v=p.darts.filter fun d=>decide (g.tail d=v):=by
 unfold outs
 rw[List.take_length]
 rfl
end Plain
theorem outs_len (g:Plain.Gr) (p:Plain.Pt) (k:Nat) (v:Int):(Plain.outs g p k v).length≤2*k:=by
 unfold Plain.outs
 refine Nat.le_trans (List.length_filter_le _ _) ?_
 rw[Plain.darts_length]
 simp only[List.length_take]
 omega
theorem upd_two (f:Int→List Int) (a z s t:Int):(fun y=>if y=z then (if z=a then f a++[s] else f z)++[t] else (if y=a then f a++[s] else f y))=fun v=>f v++((if a=v then [s] else [])++(if z=v then [t] else [])):=by
 funext y
 by_cases h1:y=z
 ·subst h1
  by_cases h2:y=a
  ·subst h2;simp
  simp[h2,Ne.symm h2]
 by_cases h2:y=a
 ·subst h2;simp[h1,Ne.symm h1]
 simp[h1,h2,Ne.symm h1,Ne.symm h2]
theorem lit_ints (w:World) {x:Int} (hx:I64 x):IntsAt (w.alloc (.cells #[.int .i64 x] 3)) (.slice (some ⟨w.heap.size,0,none⟩) 1 1) [x]:=by
 refine⟨_,1,rfl,by simpa using hx,by simp,fun _=>⟨w.heap.size,0,rfl,fun i hi=>?_⟩⟩
 have:i=0:=by simpa using hi
 subst this
 rw[cell_of_row _ _ _ _ _ _ (heap_alloc_new w _)]
 rfl
set_option maxHeartbeats 2000000 in
theorem leaving_any (vg vp:Value) (g:Plain.Gr) (p:Plain.Pt) (w:World) (hpl:p.e.length≤1000000) (hr:p.err g=0) (hg:GrAt w vg g) (hp:PtAt w vp p) :
  Calls Try.prog 47 #[vg,vp] w fun e w'=>∃ b,e=.returned (.map (some b))∧SMap w' b (2*p.e.length) (fun v=>p.darts.filter fun d=>decide (g.tail d=v))∧Chg [] w w'∧w.heap.size≤b:=by
 obtain⟨hge,hrv,hre,-⟩:=Plain.Pt.err_ok hr
 obtain⟨hn0,hn1,hel,hends⟩:=Plain.Gr.err_ok hge
 have HRE:=lh hre
 obtain⟨eo,cap,rfl,hn,hm,hsm,hcell⟩:=hg
 obtain⟨v1,v2,rfl,hv,he⟩:=hp
 obtain⟨ao,ac,rfl,-,-,-⟩:=hv
 obtain⟨bo,bc,rfl,hbs,hbm,hbcell⟩:=he
 have HCE:=lh hcell
 have HBC:=lh hbcell
 have HSM:=lh hsm
 have hmm:=@run_makeMap Try.prog
 obtain⟨hb1,hb2,hc1⟩:=box_two w #[.int .i64 g.n,.slice eo g.e.length cap] #[.slice ao p.v.length ac,.slice bo p.e.length bc] 24 27
 have x1:=(cell_of_row _ _ 1 _ _ _ hb1).trans (show _=some (Value.slice eo g.e.length cap) from rfl)
 have y1:=(cell_of_row _ _ 1 _ _ _ hb2).trans (show _=some (Value.slice bo p.e.length bc) from rfl)
 have X1:=lh x1
 have Y1:=lh y1
 have HC1:=lh hc1
 clear hcell hbcell hsm hends hre hrv hge hr hbs hn hb1 hb2 hc1 x1
 have HM:=lh (SMap.made ((w.alloc (.cells #[.int .i64 g.n,.slice eo g.e.length cap] 24)).alloc (.cells #[.slice ao p.v.length ac,.slice bo p.e.length bc] 27)))
 have y1n:=fun o=>cellNew y1 o
 go_enter Try.func47,Try.ntmps47
 go_wp2
 clear hmm y1 y1n
 have hsz:((w.alloc (.cells #[.int .i64 g.n,.slice eo g.e.length cap] 24)).alloc (.cells #[.slice ao p.v.length ac,.slice bo p.e.length bc] 27)).heap.size=w.heap.size+1+1:=by simp
 rw[hsz] at HM
 generalize hw1:((w.alloc (.cells #[.int .i64 g.n,.slice eo g.e.length cap] 24)).alloc (.cells #[.slice ao p.v.length ac,.slice bo p.e.length bc] 27))=w1 at *
 clear hw1
 obtain⟨mb,hmb⟩:∃ mb,w.heap.size+1+1=mb:=⟨_,rfl⟩
 rw[hmb] at HM hsz ⊢
 have hwb:w.heap.size≤mb:=by omega
 generalize w.heap.size+1=pb at *
 generalize hgb:w.heap.size=gb at *
 go_loopw [14] (fun c wr=>∃ k:Nat,k≤p.e.length∧c=.int .i64 k∧Chg [] w1 wr∧SMap wr mb (2*k) (Plain.outs g p k)) (fun c _=>p.e.length - (intOf c).toNat)
 case atStart=>exact⟨0,Nat.zero_le _,rfl,(Chg.refl [] w1).alloc _,by rw[Plain.outs_zero];exact HM.out⟩
 case round =>
  obtain⟨k,hk,rfl,hc,hsm⟩:=hrel
  have HC:=lh hc
  have HS:=lh hsm
  by_cases hlt:k<p.e.length
  ·obtain⟨bb,boff,rfl,hbc⟩:=HBC.out (by intro e;rw[e] at hlt;simp at hlt)
   have ce:=hc.cell (HC1.out.cell (hbc k hlt) (by simp)) (by simp)
   have hre:=Plain.rises_at HRE.out hlt
   obtain⟨ei,hei⟩:∃ ei:Nat,p.e.getD k 0=(ei:Int):=⟨(p.e.getD k 0).toNat,by omega⟩
   have HO:=lh (Plain.outs_succ (g:=g) hlt hei)
   rw[hei] at ce hre
   have hei2:ei<g.e.length:=by omega
   have hei3:(ei:Int)≤1024:=by omega
   obtain⟨eb,eoff,rfl,hc0,hc1⟩:=HCE.out ei hei2
   obtain⟨z1,z2⟩:=HSM.out ei hei2
   have C0:=lh (HC1.out.cell hc0 (by simp))
   have C1:=lh (HC1.out.cell hc1 (by simp))
   clear hbc hc hre hei hc0 hc1 hsm
   generalize (g.ends ei).1=x at *
   generalize (g.ends ei).2=y at *
   go_wp2
   clear ce
   have hS0:(fun w':World=>w'.cell? ⟨gb,1,none⟩=some (.slice (some ⟨eb,eoff,none⟩) g.e.length cap)∧w'.cell? ⟨eb,eoff+ei*2,none⟩=some (.int .i64 x)∧w'.cell? ⟨eb,eoff+ei*2+1,none⟩=some (.int .i64 y)) wr.drew:=⟨HC.out.drew.cell X1.out (by simp),HC.out.drew.cell C0.out (by simp),HC.out.drew.cell C1.out (by simp)⟩
   refine wp_region_way (fun w':World=>w'.cell? ⟨gb,1,none⟩=some (.slice (some ⟨eb,eoff,none⟩) g.e.length cap)∧w'.cell? ⟨eb,eoff+ei*2,none⟩=some (.int .i64 x)∧w'.cell? ⟨eb,eoff+ei*2+1,none⟩=some (.int .i64 y)) [0,1,2,3,4,5,6,7,8,9,10,11,12,13] (Way.line [0,1,2,3,4,5,6,7,8,9,10,11,12,13] .done) (by kernel_rfl) (by kernel_rfl) ?_
   simp only[Way.line]
   repeat
    first
     | (refine along_off rfl (by rfl) (by rfl) (fun _ _ _ h=>h) hS0 ?_;simp only[Act.put,Z1,Z2,Z3,Z4,Z5,Z6])
     | (refine along_read (v:=?_) rfl (by rfl) (by rfl) (fun _ _ _ h=>h) hS0 (fun w' hS'=>?_) ?_;rotate_left;(focus ((try dsimp only at hS');go_simp;try with_reducible rfl));simp only[Act.put,Z1,Z2,Z3,Z4,Z5,Z6])
     | (refine along_skip rfl (by rfl) (by rfl) hS0 ?_;simp only[Act.put,Z1,Z2,Z3,Z4,Z5,Z6])
   refine along_done ?_
   clear hS0
   have HS2:=lh (show SMap wr.drew mb (2*k) (Plain.outs g p k) from HS.out)
   have HC2:=lh HC.out.drew
   have I1:I64 (2*(ei:Int)):=I64.mk (by omega) (by omega)
   have I2:I64 (2*(ei:Int)+1):=I64.mk (by omega) (by omega)
   generalize wr.drew=wd at *
   have HFL:=lh (fun v=>outs_len g p k v)
   generalize Plain.outs g p k=f0 at *
   have HSZ:=lh hsz
   have tok1:True:=trivial
   have tok2:True:=trivial
   have tok3:True:=trivial
   clear HS HC hsz
   go_wp2_with (first
    | (at_lookup;have _t:=tok1;refine wl_slook rfl _ _ rfl HS2.out (by omega) rfl z1 rfl ?_;intro v1 r1 l1 b1;clear tok1;have R1:=lh r1;have B1:=lh b1;clear r1 l1 b1)
    | (at_builtin;have _t:=tok2;refine wl_app_read rfl _ _ rfl (B:=mb+1) rfl rfl (R1.out.chg ((Chg.refl [] _).alloc _) (by simp)) (lit_ints _ I1) (by have:=HS2.out.lt;simp;omega) (by have:=HFL.out x;simp;omega) ?_;intro u1 w2 q1 c1 f1;clear tok2;have Q1:=lh q1;have D1:=lh (((Chg.refl (foot v1) wd).alloc (.cells #[.int .i64 (2*(ei:Int))] 3)).trans c1 (fun j hj=>Or.inl hj));have F1:=lh (fun j hj=>(f1 j hj).imp id (fun h=>Nat.le_trans ((Chg.refl [] wd).alloc (.cells #[.int .i64 (2*(ei:Int))] 3)).size h));clear q1 c1 f1)
    | (at_mapUpdate;have _t:=tok3;refine wl_sback rfl _ _ _ rfl B1.out rfl rfl rfl Q1.out D1.out F1.out ?_;intro w3 s3 d3;clear tok3;have S3:=lh s3;have D3:=lh d3;clear s3 d3)
    | (at_lookup;refine wl_slook rfl _ _ rfl S3.out (by omega) rfl z2 rfl ?_;intro v4 r4 l4 b4;have R4:=lh r4;have L4:=lh l4;have B4:=lh b4;clear r4 l4 b4)
    | (at_builtin;refine wl_app_read rfl _ _ rfl (B:=mb+1) rfl rfl (R4.out.chg ((Chg.refl [] _).alloc _) (by simp)) (lit_ints _ I2) (by have:=S3.out.lt;simp;omega) (by have:=L4.out;simp;omega) ?_;intro u5 w5 q5 c5 f5;have Q5:=lh q5;have D5:=lh (((Chg.refl (foot v4) w3).alloc (.cells #[.int .i64 (2*(ei:Int)+1)] 3)).trans c5 (fun j hj=>Or.inl hj));have F5:=lh (fun j hj=>(f5 j hj).imp id (fun h=>Nat.le_trans ((Chg.refl [] w3).alloc (.cells #[.int .i64 (2*(ei:Int)+1)] 3)).size h));clear q5 c5 f5)
    | (at_mapUpdate;refine wl_sback rfl _ _ _ rfl B4.out rfl rfl rfl Q5.out D5.out F5.out ?_;intro w6 s6 d6;have S6:=lh s6;have D6:=lh d6;clear s6 d6))
   have low1:∀ j∈foot v1,w1.heap.size≤j:=fun j hj=>by have:=(R1.out.low j (by rw[←R1.out.foot];exact hj)).1;have:=HSZ.out;omega
   have low4:∀ j∈foot v4,w1.heap.size≤j:=fun j hj=>by have:=(R4.out.low j (by rw[←R4.out.foot];exact hj)).1;have:=HSZ.out;omega
   have lowm:∀ j∈[mb],j∈([]:List Nat)∨w1.heap.size≤j:=fun j hj=>Or.inr (by have:=HSZ.out;simp at hj;omega)
   have HC6:=lh ((((HC2.out.trans D1.out (fun j hj=>Or.inr (low1 j hj))).trans D3.out lowm).trans D5.out (fun j hj=>Or.inr (low4 j hj))).trans D6.out lowm)
   have HS6:=lh (show SMap w6 mb (2*(k+1)) (Plain.outs g p (k+1)) by rw[HO.out,←upd_two f0 x y];exact S6.out)
   clear low1 low4 lowm
   go_wp2
   go_roundw
   case rel=>exact⟨k+1,by omega,by go_num,HC6.out,HS6.out⟩
   case measure=>simp[intOf];omega
  have e:k=p.e.length:=by omega
  subst e
  have HF:=lh (show SMap wr mb (2*p.e.length) (fun v=>p.darts.filter fun d=>decide (g.tail d=v)) by have:=HS.out;rwa[show Plain.outs g p p.e.length=fun v=>p.darts.filter fun d=>decide (g.tail d=v) from funext (Plain.outs_all g p)] at this)
  clear hsm hc
  go_wp2
  go_ret
  exact⟨mb,rfl,HF.out,HC1.out.trans HC.out (by simp),by rw[hgb];exact hwb⟩
end Go.Proofs.Ytbkjljffnkdcjaa
