/- Rows of ints of a call's own: appends, stores, literals; lists of lists; calls inside drawn regions. Conditions: what each law says. -/
import Derived.Test.YtkacjmoamgjfpaaGreatHxRows2
import Derived.Laws.OwnMore
import Derived.Maps.OwnRows
import Derived.Maps.GroupsBeside
import Derived.Test.YtkacjmoamgjfpaaGreatHxGraphB
import Derived.ArgAppend
namespace Go.Proofs.YtkacjmoamgjfpaaGreat
open Go.RowKit Go.Maps
theorem run_spread {t e:TypeId} {z:Value} {size bytes:Nat} (E:Elem t e z size bytes) {w:World} {B B':Nat} {v u:Value} {n m:Nat} {xs ys:List Value} (hown:w.ownsRow B e size v n xs) (hsrc:w.ownsRow B' e size u m ys) (hB:B≤w.heap.size)
  (h1:∀ y∈ys,y.oneCell'=true) (hn:n+m<68719476736) (ty:TypeId) :
  ∃ v' w',(Builtin.append_ #[t,t] ty #[v,u]).run Tryz.prog w=.ok v' w'∧w'.ownsRow B e size v' (n+m) (xs++ys)∧Chg v.ownBlock.toList w w'∧(∀ b∈v'.ownBlock.toList,b∈v.ownBlock.toList∨w.heap.size≤b):=by
 obtain⟨i0,hi,hz0,hz1,hz2⟩:=info_parts E.hi
 have hb:=E.hb
 rcases hsrc.2 with ⟨rfl,rfl⟩ | ⟨g,cap,cur,rfl,hg,hh,hnc,hcm,hcs,hys⟩
 ·have hy:ys=[]:=List.length_eq_zero_iff.1 (by rw[hsrc.1];simp)
  subst hy
  exact⟨v,w,run_append_owned_none w B t ty e i0 size E.ht hi v n xs hown,by simpa using hown,Chg.refl _ _,fun b hb=>Or.inl hb⟩
 have hl:=hsrc.1
 have hnews:∀ j y,ys[j]?=some y→w.cell? ((⟨g,0,none⟩:Addr).add j)=some y:=by
  intro j y hy
  have hadd:(⟨g,0,none⟩:Addr).add j=⟨g,j,none⟩:=by unfold Addr.add;split <;> simp_all
  rw[hadd,cell_of_row w _ j cur e (0,0) hh]
  rw[←hys] at hy
  rw[List.getElem?_take] at hy
  split at hy
  ·simpa using hy
  cases hy
 obtain⟨v',w',hr,h2,h3,-,h5⟩:=run_append_own_at (P:=Tryz.prog) w B t ty e i0 z size bytes E.ht hi hz0 hz1 hz2 E.hz E.h0 v n xs hown ⟨g,0,none⟩ m cap ys hl hnews h1 (by unfold maxLen;omega) (Nat.le_trans (Nat.mul_le_mul_left _ hb) (by omega)) hB
 refine⟨v',w',hr,h2,(Chg.refl _ _).grown h3 (fun j hj=>Or.inl (by rw[hj];simp)),fun b hb=>?_⟩
 rcases h5 with q | q
 ·exact Or.inl (by rw[←q];exact hb)
 rw[q] at hb
 simp at hb
 exact Or.inr (by omega)
theorem wp_spread {t e:TypeId} {z:Value} {size bytes:Nat} (E:Elem t e z size bytes) {o:Oper} {a:Act} {K:Act→World→Prop} {Q:Exit→Act→World→Prop} {w:World} (s x:Operand) (ho:o.op=.call { callee:=.builtin .append,args:=#[s,x],argTypes:=#[t,t] })
  {B B':Nat} {v u:Value} {n m:Nat} {xs ys:List Value} (hs:a.eval s=v) (hx:a.eval x=u) (hown:w.ownsRow B e size v n xs) (hsrc:w.ownsRow B' e size u m ys) (hB:B≤w.heap.size)
  (h1:∀ y∈ys,y.oneCell'=true) (hn:n+m<68719476736)
  (hK:∀ v' w',w'.ownsRow B e size v' (n+m) (xs++ys)→Chg v.ownBlock.toList w w'→(∀ b∈v'.ownBlock.toList,b∈v.ownBlock.toList∨w.heap.size≤b)→K (a.put o.dst v') w'):o.wp Tryz.prog a w K Q:=by
 obtain⟨v',w',hr,r1,r2,r3⟩:=run_spread E hown hsrc hB h1 hn o.type
 unfold Oper.wp execOp
 simp only[ho,resolve,invoke,builtin,Sem.run_bind,Sem.run_pure,Result.andThen_ok,List.map_toArray,List.map_cons,List.map_nil,hs,hx,hr]
 exact hK v' w' r1 r2 r3
def RowAt (w:World) (B:Nat) (v:Value) (l:List Int):Prop:=w.ownsRow B 3 1 v l.length (ints l)∧(∀ x∈l,I64 x)∧l.length<4294967296
theorem RowAt.ints {w:World} {B:Nat} {v:Value} {l:List Int} (h:RowAt w B v l):IntsAt w v l:=by
 obtain⟨h,h1,h2⟩:=h
 rcases h.2 with ⟨rfl,h0⟩ | ⟨g,cap,cur,rfl,hg,hh,hnc,hcm,hcs,hys⟩
 ·have:l=[]:=List.length_eq_zero_iff.1 h0
  subst this
  exact IntsAt.nil _
 refine⟨_,cap,rfl,h1,by omega,fun _=>⟨g,0,rfl,fun i hi=>?_⟩⟩
 rw[Nat.zero_add,cell_of_row w _ i cur 3 (0,0) hh]
 have:cur.toList[i]?=some (.int .i64 (l.getD i 0)):=by
  have q:(Go.Proofs.YtkacjmoamgjfpaaGreat.ints l)[i]?=some (.int .i64 (l.getD i 0)):=by simp[Go.Proofs.YtkacjmoamgjfpaaGreat.ints,List.getD,hi]
  rw[←hys,List.getElem?_take,if_pos (by omega)] at q
  exact q
 simpa using this
theorem RowAt.chg {w w':World} {B:Nat} {v:Value} {l:List Int} {own:List Nat} (h:RowAt w B v l) (hc:Chg own w w') (hn:∀ b∈v.ownBlock.toList,b ∉ own):RowAt w' B v l :=
 ⟨owns_chg h.1 hc (fun b hb=>hn b (by rw[hb];simp)),h.2⟩
theorem RowAt.low {w:World} {B:Nat} {v:Value} {l:List Int} (h:RowAt w B v l):∀ b∈v.ownBlock.toList,B≤b∧b<w.heap.size:=fun b hb=>h.1.lt b (by simpa using hb)
theorem foot_slice (ao:Option Addr) (n c:Nat):foot (.slice ao n c)=(Value.slice ao n c).ownBlock.toList:=rfl
theorem RowAt.shape {w:World} {B:Nat} {v:Value} {l:List Int} (h:RowAt w B v l):∃ ao c,v=.slice ao l.length c:=owns_shape h.1
theorem RowAt.foot {w:World} {B:Nat} {v:Value} {l:List Int} (h:RowAt w B v l):foot v=v.ownBlock.toList:=by
 obtain⟨ao,c,rfl⟩:=h.shape
 rfl
theorem ints_ones {l:List Int}:∀ y∈ints l,y.oneCell'=true:=by
 intro y hy
 simp only[ints,List.mem_map] at hy
 obtain⟨x,-,rfl⟩:=hy
 rfl
theorem wp_cat {o:Oper} {a:Act} {K:Act→World→Prop} {Q:Exit→Act→World→Prop} {w:World} (s x:Operand) (ho:o.op=.call { callee:=.builtin .append,args:=#[s,x],argTypes:=#[27,27] })
  {B B':Nat} {v u:Value} {l m:List Int} (hs:a.eval s=v) (hx:a.eval x=u) (h1:RowAt w B v l) (h2:RowAt w B' u m) (hB:B≤w.heap.size) (hn:l.length+m.length<4294967296)
  (hK:∀ v' w',RowAt w' B v' (l++m)→Chg (foot v) w w'→(∀ b∈foot v',b∈foot v∨w.heap.size≤b)→K (a.put o.dst v') w'):o.wp Tryz.prog a w K Q :=
 wp_spread elemInt s x ho hs hx h1.1 h2.1 hB ints_ones (by omega) fun v' w' r1 r2 r3=>by
  have hr:RowAt w' B v' (l++m):=⟨by rw[List.length_append];simpa[ints] using r1,fun y hy=>(List.mem_append.1 hy).elim (h1.2.1 y) (h2.2.1 y),by rw[List.length_append];exact hn⟩
  exact hK v' w' hr (by rw[h1.foot];exact r2) (fun b hb=>by rw[h1.foot];exact r3 b (by rw[←hr.foot];exact hb))
theorem RowAt.base {w:World} {B B':Nat} {v:Value} {l:List Int} (h:RowAt w B' v l) (hB:B≤B'):RowAt w B v l:=by
 obtain⟨⟨h0,h1⟩,h2⟩:=h
 refine⟨⟨h0,h1.imp id ?_⟩,h2⟩
 rintro ⟨g,cap,cur,e,q,r⟩
 exact⟨g,cap,cur,e,by omega,r⟩
section
variable {ops : Array Oper} {Q : Exit → Act → World → Prop} {fr : (Nat → Value) → Act} {z : Nat} {fin : List Nat} {w1 : World} {i : Nat} {rest : List (Oper × Info)} {L : List (Value → World → Prop)} {o : Oper} {d : Info}
end
theorem RowAt.some {w:World} {B:Nat} {ao:Option Addr} {n c:Nat} {l:List Int} (h:RowAt w B (.slice ao n c) l) (hl:0<l.length):∃ g,ao=some ⟨g,0,none⟩∧∀ i,i<l.length→w.cell? ⟨g,i,none⟩=.some (.int .i64 (l.getD i 0)):=by
 rcases h.1.2 with ⟨e,h0⟩ | ⟨g,cap,cur,e,-,hh,-⟩
 ·omega
 obtain⟨ao',c',e1,h1,h2,h3⟩:=h.ints
 obtain⟨b,off,rfl,h4⟩:=h3 (by intro q;rw[q] at hl;simp at hl)
 simp only[Value.slice.injEq] at e e1
 obtain⟨rfl,-,-⟩:=e
 obtain⟨e2,-,-⟩:=e1
 simp only[Option.some.injEq,Addr.mk.injEq] at e2
 obtain⟨rfl,rfl,-⟩:=e2
 exact⟨_,rfl,fun i hi=>by simpa using h4 i hi⟩
theorem wp_calls {P:Program} {o:Oper} {a:Act} {K:Act→World→Prop} {Q:Exit→Act→World→Prop} {w:World} {f:FuncId} {xs:Array Operand} {tys:Array TypeId} {args:Array Value} (ho:o.op=.call { callee:=.value (.func f),args:=xs,argTypes:=tys })
  (he:∀ args w,(callFunc f args).run P w=.ok (.enter f args) w) (hx:xs.toList.map a.eval=args.toList) (h:Calls P f args w fun e w'=>∃ v,e=.returned v∧K (a.put o.dst v) w'):o.wp P a w K Q:=by
 have e:(execOp a.eval o).run P w=.ok (.enter f args) w:=by
  unfold execOp
  have hx':xs.map a.eval=args:=by
   apply Array.toList_inj.1
   rw[Array.toList_map]
   exact hx
  simp only[ho]
  simp[resolve,go_sem,hx',he]
 unfold Oper.wp
 rw[e,Oper.upon_enter]
 refine h.mono ?_
 rintro e' w' ⟨v,rfl,hk⟩
 exact hk
theorem wl_cat {ops:Array Oper} {rest:List Oper} {o:Oper} {a:Act} {Q:Exit→Act→World→Prop} {w:World} (hg:o.guard=none) (s x:Operand) (ho:o.op=.call { callee:=.builtin .append,args:=#[s,x],argTypes:=#[27,27] })
  {B B':Nat} {v u:Value} {l m:List Int} (hs:a.eval s=v) (hx:a.eval x=u) (h1:RowAt w B v l) (h2:RowAt w B' u m) (hB:B≤w.heap.size) (hn:l.length+m.length<4294967296)
  (hK:∀ v' w',RowAt w' B v' (l++m)→Chg (foot v) w w'→(∀ b∈foot v',b∈foot v∨w.heap.size≤b)→wpList Tryz.prog ops Q rest (a.put o.dst v') w'):wpList Tryz.prog ops Q (o :: rest) a w :=
 wpList_plain hg fun _ hK'=>wp_cat s x ho hs hx h1 h2 hB hn fun v' w' r1 r2 r3=>hK' _ _ (hK v' w' r1 r2 r3)
theorem RowAt.set {w:World} {B g n c:Nat} {l:List Int} (h:RowAt w B (.slice (.some ⟨g,0,none⟩) n c) l) (i:Nat) (x:Int) (hx:I64 x):RowAt (w.setCell ⟨g,i,none⟩ (.int .i64 x)) B (.slice (.some ⟨g,0,none⟩) n c) (l.set i x):=by
 obtain⟨ao,c',e⟩:=h.shape
 simp only[Value.slice.injEq] at e
 obtain⟨-,rfl,-⟩:=e
 refine⟨?_,fun y hy=>?_,by rw[List.length_set];exact h.2.2⟩
 ·have:=(h.1.stored i (.int .i64 x)).1
  rw[List.length_set,_root_.Go.Proofs.YtkacjmoamgjfpaaGreat.ints,List.map_set]
  exact this
 rcases List.mem_or_eq_of_mem_set hy with q | q
 ·exact h.2.1 y q
 rw[q];exact hx
theorem RowAt.free {w:World} {B g n c:Nat} {l:List Int} (h:RowAt w B (.slice (.some ⟨g,0,none⟩) n c) l) (hl:0<l.length) (i:Nat):w.frozen? ⟨g,i,none⟩=false:=by
 rcases h.1.2 with ⟨e,h0⟩ | ⟨g',cap,cur,e,-,hh,-⟩
 ·omega
 simp only[Value.slice.injEq,Option.some.injEq,Addr.mk.injEq] at e
 obtain⟨⟨rfl,-⟩,-⟩:=e
 simp[World.frozen?,hh]
theorem RowsOwn.add {w w':World} {B g cap:Nat} {ov v:Value} {vs:List Value} {ll:List (List Int)} {l:List Int} (h:RowsOwn w B ov vs ll) (hv:w.ownsRow B 3 1 v l.length (ints l))
  (hap:∀ k b,k<vs.length→(vs.getD k undef).ownBlock=some b→v.ownBlock≠some b) (hn:w'.ownsRow B 27 1 (.slice (some ⟨g,0,none⟩) (vs.length+1) cap) (vs.length+1) (vs++[v])) (hc:Chg ov.ownBlock.toList w w') :
  RowsOwn w' B (.slice (some ⟨g,0,none⟩) (vs.length+1) cap) (vs++[v]) (ll++[l]):=by
 have hl:=h.len
 have old:∀ k,k<vs.length→(vs++[v]).getD k undef=vs.getD k undef∧(ll++[l]).getD k []=ll.getD k []:=by
  intro k hk
  simp only[List.getD]
  rw[List.getElem?_append_left hk,List.getElem?_append_left (by omega)]
  exact⟨rfl,rfl⟩
 have new:(vs++[v]).getD vs.length undef=v∧(ll++[l]).getD vs.length []=l:=by
  simp[List.getD,hl]
 have keep:∀ {u:Value} {m:List Int},w.ownsRow B 3 1 u m.length (ints m)→w'.ownsRow B 3 1 u m.length (ints m):=by
  intro u m hu
  refine owns_chg hu hc (fun b hb e1=>?_)
  rcases owns_two hu h.out (by decide) with q | q
  ·rw[q] at hb;cases hb
  simp at e1;exact q (hb.trans e1.symm)
 refine⟨by simpa using hn,by simp[hl],fun k hk=>?_,fun k j hk hj hne=>?_⟩
 ·by_cases e:k<vs.length
  ·rw[(old k e).1,(old k e).2]
   exact keep (h.rows k e)
  have:k=vs.length:=by simp at hk;omega
  subst this
  rw[new.1,new.2]
  exact keep hv
 by_cases e:k<vs.length
 ·rw[(old k e).1]
  by_cases e2:j<vs.length
  ·rw[(old j e2).1]
   exact h.apart k j e e2 hne
  have:j=vs.length:=by simp at hj;omega
  subst this
  rw[new.1]
  cases hq:(vs.getD k undef).ownBlock with
  | none=>exact Or.inl rfl
  | some b=>exact Or.inr (fun q=>hap k b e hq q.symm)
 have:k=vs.length:=by simp at hk;omega
 subst this
 have e2:j<vs.length:=by simp at hj;omega
 rw[new.1,(old j e2).1]
 cases hq:(vs.getD j undef).ownBlock with
 | none =>
  cases hq2:v.ownBlock with
  | none=>exact Or.inl rfl
  | some b=>exact Or.inr (by simp)
 | some b=>exact Or.inr (fun q=>hap j b e2 hq q)
theorem owns_base {w:World} {B B':Nat} {e:TypeId} {size:Nat} {v:Value} {n:Nat} {xs:List Value} (h:w.ownsRow B' e size v n xs) (hB:B≤B'):w.ownsRow B e size v n xs:=by
 obtain⟨h0,h1⟩:=h
 refine⟨h0,h1.imp id ?_⟩
 rintro ⟨g,cap,cur,e,q,r⟩
 exact⟨g,cap,cur,e,by omega,r⟩
theorem RowsOwn.base {w:World} {B B':Nat} {ov:Value} {vs:List Value} {ll:List (List Int)} (h:RowsOwn w B' ov vs ll) (hB:B≤B'):RowsOwn w B ov vs ll :=
 ⟨owns_base h.out hB,h.len,fun k hk=>owns_base (h.rows k hk) hB,h.apart⟩
theorem wl_make0 {ops:Array Oper} {rest:List Oper} {o:Oper} {a:Act} {Q:Exit→Act→World→Prop} {w:World} (hg:o.guard=none) (l c:Operand) (hop:o.op=Op.makeSlice 27 l c) {B n:Nat} (hl:a.eval l=.int .i64 0) (hc:a.eval c=.int .i64 n) (hB:B≤w.heap.size) (hn:n<4294967296)
  (hK:∀ v w',RowAt w' B v []→Chg [] w w'→(∀ b∈foot v,w.heap.size≤b)→wpList Tryz.prog ops Q rest (a.put o.dst v) w'):wpList Tryz.prog ops Q (o :: rest) a w:=by
 obtain⟨i0,hi,hz0,hz1,hz2⟩:=info_parts elemInt.hi
 refine wpList_make_own w hg l c 27 hop B 3 i0 (.int .i64 0) 1 elemInt.ht hi hz0 hz1 .i64 .i64 (n:Int) n hl hc rfl ?_ (by unfold maxLen;omega) hB (fun w' h1 h2=>hK _ w' ⟨h1,by simp,by simp⟩ ((Chg.refl _ _).grown h2 (by simp)) (by simp[foot,Value.ownBlock]))
 rw[hz2]
 omega
theorem run_app_read {w:World} {B:Nat} {v u:Value} {l m:List Int} (h1:RowAt w B v l) (h2:IntsAt w u m) (hB:B≤w.heap.size) (hn:l.length+m.length<4294967296) (ty:TypeId) :
  ∃ v' w',(Builtin.append_ #[27,27] ty #[v,u]).run Tryz.prog w=.ok v' w'∧RowAt w' B v' (l++m)∧Chg (foot v) w w'∧(∀ b∈foot v',b∈foot v∨w.heap.size≤b):=by
 obtain⟨i0,hi,hz0,hz1,hz2⟩:=info_parts elemInt.hi
 have hb:=elemInt.hb
 obtain⟨ao,cap,rfl,hsm,hml,hc⟩:=h2
 have fin:∀ (ad:Addr),ao=some ad→(∀ j y,(ints m)[j]?=some y→w.cell? (ad.add j)=some y)→∃ v' w',(Builtin.append_ #[27,27] ty #[v,.slice ao m.length cap]).run Tryz.prog w=.ok v' w'∧RowAt w' B v' (l++m)∧Chg (foot v) w w'∧(∀ b∈foot v',b∈foot v∨w.heap.size≤b):=by
  rintro ad rfl hnews
  obtain⟨v',w',hr,r2,r3,-,r5⟩:=run_append_own_at (P:=Tryz.prog) w B 27 ty 3 i0 (.int .i64 0) 1 8 elemInt.ht hi hz0 hz1 hz2 elemInt.hz elemInt.h0 v l.length (ints l) h1.1 ad m.length cap (ints m) (by simp[ints]) hnews ints_ones (by unfold maxLen;omega) (Nat.le_trans (Nat.mul_le_mul_left _ (Nat.le_refl _)) (by omega)) hB
  have hrow:RowAt w' B v' (l++m):=⟨by rw[List.length_append];simpa[ints] using r2,fun y hy=>(List.mem_append.1 hy).elim (h1.2.1 y) (hsm y),by rw[List.length_append];exact hn⟩
  refine⟨v',w',hr,hrow,(Chg.refl _ _).grown r3 (fun j hj=>Or.inl (by rw[h1.foot,hj];simp)),fun b hb=>?_⟩
  rw[hrow.foot] at hb
  rw[h1.foot]
  rcases r5 with q | q
  ·exact Or.inl (by rw[←q];exact hb)
  rw[q] at hb
  simp at hb
  exact Or.inr (by omega)
 cases ao with
 | none =>
  have hm0:m=[]:=by
   cases m with
   | nil=>rfl
   | cons x r=>obtain⟨b,off,e,-⟩:=hc (by simp);cases e
  subst hm0
  refine⟨v,w,?_,by simpa using h1,Chg.refl _ _,fun b hb=>Or.inl hb⟩
  rcases h1.1.2 with ⟨rfl,_⟩ | ⟨g,cap2,cur,rfl,_,_,hnc,_⟩
  ·simp[Builtin.append_,run_underlying elemInt.ht,sizeOf,typeInfo,hi,Builtin.lenOf,Builtin.firstCells]
  simp[Builtin.append_,run_underlying elemInt.ht,sizeOf,typeInfo,hi,Builtin.lenOf,Builtin.firstCells,hnc,storeCells]
 | some ad =>
  by_cases hm0:m=[]
  ·subst hm0
   exact fin ad rfl (by simp[ints])
  obtain⟨b,off,e,hcc⟩:=hc hm0
  cases e
  refine fin ⟨b,off,none⟩ rfl fun j y hy=>?_
  have hadd:(⟨b,off,none⟩:Addr).add j=⟨b,off+j,none⟩:=by unfold Addr.add;split <;> simp_all
  have hj:j<m.length:=by have:=(List.getElem?_eq_some_iff.1 hy).1;simpa[ints] using this
  rw[hadd,hcc j hj,←hy]
  simp[ints,List.getD,hj]
theorem wl_app_read {ops:Array Oper} {rest:List Oper} {o:Oper} {a:Act} {Q:Exit→Act→World→Prop} {w:World} (hg:o.guard=none) (s x:Operand) (ho:o.op=.call { callee:=.builtin .append,args:=#[s,x],argTypes:=#[27,27] })
  {B:Nat} {v u:Value} {l m:List Int} (hs:a.eval s=v) (hx:a.eval x=u) (h1:RowAt w B v l) (h2:IntsAt w u m) (hB:B≤w.heap.size) (hn:l.length+m.length<4294967296)
  (hK:∀ v' w',RowAt w' B v' (l++m)→Chg (foot v) w w'→(∀ b∈foot v',b∈foot v∨w.heap.size≤b)→wpList Tryz.prog ops Q rest (a.put o.dst v') w'):wpList Tryz.prog ops Q (o :: rest) a w:=by
 refine wpList_plain hg fun K hK'=>?_
 obtain⟨v',w',hr,r1,r2,r3⟩:=run_app_read h1 h2 hB hn o.type
 unfold Oper.wp execOp
 simp only[ho,resolve,invoke,builtin,Sem.run_bind,Sem.run_pure,Result.andThen_ok,List.map_toArray,List.map_cons,List.map_nil,hs,hx,hr]
 exact hK' _ _ (hK v' w' r1 r2 r3)
theorem wp_app_readK {o:Oper} {a:Act} {K:Act→World→Prop} {Q:Exit→Act→World→Prop} {w:World} (s x:Operand) (ho:o.op=.call { callee:=.builtin .append,args:=#[s,x],argTypes:=#[27,27] })
  {B:Nat} {v u:Value} {l m:List Int} (hs:a.eval s=v) (hx:a.eval x=u) (h1:RowAt w B v l) (h2:IntsAt w u m) (hB:B≤w.heap.size) (hn:l.length+m.length<4294967296)
  (hK:∀ v' w',RowAt w' B v' (l++m)→Chg (foot v) w w'→(∀ b∈foot v',b∈foot v∨w.heap.size≤b)→K (a.put o.dst v') w'):o.wp Tryz.prog a w K Q:=by
 obtain⟨v',w',hr,r1,r2,r3⟩:=run_app_read h1 h2 hB hn o.type
 unfold Oper.wp execOp
 simp only[ho,resolve,invoke,builtin,Sem.run_bind,Sem.run_pure,Result.andThen_ok,List.map_toArray,List.map_cons,List.map_nil,hs,hx,hr]
 exact hK v' w' r1 r2 r3
theorem row_kind {w:World} {B:Nat} {v:Value} {l:List Int} (h:RowAt w B v l):∀ j∈foot v,∃ cs r,w.heap[j]?=some (.cells cs 3 r):=by
 intro j hj
 rw[h.foot] at hj
 rcases h.1.2 with ⟨rfl,_⟩ | ⟨g,c,cur,rfl,hb,hh,_⟩
 ·simp[Value.ownBlock] at hj
 simp[Value.ownBlock] at hj
 subst hj
 exact⟨_,_,hh⟩
namespace Plain
def lst (l:List Int):Nat→Nat
 | 0=>0
 | k+1=>if l.getD k 0<l.getD (lst l k) 0 then k else lst l k
theorem lst_lt {l:List Int} (h:0<l.length):∀ k,k≤l.length→lst l k<l.length
 | 0,_=>h
 | k+1,hk=>by
  unfold lst
  split
  ·omega
  exact lst_lt h k (by omega)
theorem lst_le (l:List Int):∀ k,lst l k≤k
 | 0=>Nat.le_refl _
 | k+1=>by
  unfold lst
  split
  ·omega
  have:=lst_le l k;omega
def first (l:List Int):List Int:=l.drop (lst l l.length)++l.take (lst l l.length)
end Plain
theorem IntsAt.drop {w:World} {b off cap:Nat} {l:List Int} (hsm:∀ x∈l,I64 x) (hm:l.length≤9223372036854775807) (hc:∀ i,i<l.length→w.cell? ⟨b,off+i,none⟩=some (.int .i64 (l.getD i 0))) (i:Nat):IntsAt w (.slice (some ⟨b,off+i,none⟩) (l.length - i) cap) (l.drop i):=by
 refine⟨_,cap,by rw[List.length_drop],fun x hx=>hsm x (List.mem_of_mem_drop hx),by rw[List.length_drop];omega,fun _=>⟨b,off+i,rfl,fun j hj=>?_⟩⟩
 rw[List.length_drop] at hj
 rw[Nat.add_assoc,hc (i+j) (by omega)]
 simp[List.getD]
theorem IntsAt.take {w:World} {b off cap:Nat} {l:List Int} (hsm:∀ x∈l,I64 x) (hm:l.length≤9223372036854775807) (hc:∀ i,i<l.length→w.cell? ⟨b,off+i,none⟩=some (.int .i64 (l.getD i 0))) {i:Nat} (hi:i≤l.length):IntsAt w (.slice (some ⟨b,off,none⟩) i cap) (l.take i):=by
 have hl:(l.take i).length=i:=by rw[List.length_take];omega
 refine⟨_,cap,by rw[hl],fun x hx=>hsm x (List.mem_of_mem_take hx),by rw[hl];omega,fun _=>⟨b,off,rfl,fun j hj=>?_⟩⟩
 rw[hl] at hj
 rw[hc j (by omega)]
 simp[List.getD,hj]
theorem IntsAt.none_ (w:World) (ao:Option Addr) (c:Nat):IntsAt w (.slice ao 0 c) []:=⟨ao,c,rfl,by simp,by simp,by simp⟩
set_option maxRecDepth 100000 in
theorem turned_any (v:Value) (l:List Int) (i:Nat) (w:World) (hi:i≤l.length) (hn:l.length<2147483648) (hcap:CapOk v) (h:IntsAt w v l) :
  Calls Tryz.prog 138 #[v,.int .i64 i] w fun e w'=>∃ v',e=.returned v'∧RowAt w' w.heap.size v' (l.drop i++l.take i)∧Chg [] w w':=by
 obtain⟨ao,cap,rfl,hsm,hm,hcell⟩:=h
 obtain⟨ao',n',cap',e,hlc,hcm⟩:=hcap
 simp only[Value.slice.injEq] at e
 obtain⟨rfl,rfl,rfl⟩:=e
 have key:∀ (u1 u2:Value) (l1 l2:List Int),Hid (∀ wx,Chg [] w wx→IntsAt wx u1 l1)→Hid (∀ wx,Chg [] w wx→IntsAt wx u2 l2)→Hid (l1.length+l2.length≤l.length) →
   ∀ (v1:Value) (w1:World),RowAt w1 w.heap.size v1 []→Chg [] w w1→Hid (∀ b∈foot v1,w.heap.size≤b)→True:=fun _ _ _ _ _ _ _ _ _ _ _ _=>trivial
 clear key
 have fin:∀ (b off:Nat),ao=some ⟨b,off,none⟩→(∀ i,i<l.length→w.cell? ⟨b,off+i,none⟩=some (.int .i64 (l.getD i 0)))→0<l.length →
   Calls Tryz.prog 138 #[.slice ao l.length cap,.int .i64 i] w fun e w'=>∃ v',e=.returned v'∧RowAt w' w.heap.size v' (l.drop i++l.take i)∧Chg [] w w':=by
  rintro b off rfl hc h0
  have HT:=lh (fun wx (hx:Chg [] w wx)=>(IntsAt.take (cap:=i) hsm hm hc hi).fresh hx)
  have tok1:True:=trivial
  by_cases hic:i=cap
  ·obtain rfl:i=l.length:=by omega
   obtain rfl:cap=l.length:=hic.symm
   have HD:=lh (fun wx=>IntsAt.none_ wx (some ⟨b,off,none⟩) 0)
   have HLE:=lh (show l.drop l.length++l.take l.length=[]++l.take l.length by rw[List.drop_length])
   rw[HLE.out]
   have HTL:=lh (show (l.take l.length).length=l.length by simp)
   clear hsm hcell hc hic
   go_enter Tryz.func138,Tryz.ntmps138
   go_wp2_with (first
    | (at_make;refine wl_make0 rfl _ _ rfl (B:=w.heap.size) (n:=l.length) rfl rfl (Nat.le_refl _) (by omega) ?_;intro v1 w1 r1 hc1 f1;have R1:=lh r1;have C1:=lh hc1;have F1:=lh f1;clear r1 hc1 f1)
    | (at_builtin;have _t:=tok1;refine wl_app_read rfl _ _ rfl (B:=w.heap.size) rfl rfl R1.out (HD.out _) C1.out.size (by simp) ?_;intro v2 w2 r2 hc2 f2;clear tok1;have R2:=lh r2;have C2:=lh (C1.out.trans hc2 (fun j hj=>Or.inr (F1.out j hj)));have F2:=lh (fun j hj=>(f2 j hj).elim (F1.out j) (Nat.le_trans C1.out.size));clear r2 hc2 f2)
    | (at_builtin;refine wl_app_read rfl _ _ rfl (B:=w.heap.size) rfl rfl R2.out (HT.out _ C2.out) C2.out.size (by rw[HTL.out];simp;omega) ?_;intro v3 w3 r3 hc3 f3;have R3:=lh r3;have C3:=lh (C2.out.trans hc3 (fun j hj=>Or.inr (F2.out j hj)));clear r3 hc3 f3))
   go_ret
   exact⟨_,rfl,R3.out,C3.out⟩
  have HD:=lh (fun wx (hx:Chg [] w wx)=>(IntsAt.drop (cap:=cap - i) hsm hm hc i).fresh hx)
  have HDL:=lh (show ([]:List Int).length+(l.drop i).length<4294967296 by rw[List.length_drop];simp;omega)
  have HTL:=lh (show ([]++l.drop i).length+(l.take i).length<4294967296 by rw[List.nil_append,List.length_drop,List.length_take];omega)
  have HNE:=lh (List.nil_append (l.drop i))
  clear hsm hcell hc
  go_enter Tryz.func138,Tryz.ntmps138
  go_wp2_with (first
   | (at_make;refine wl_make0 rfl _ _ rfl (B:=w.heap.size) (n:=l.length) rfl rfl (Nat.le_refl _) (by omega) ?_;intro v1 w1 r1 hc1 f1;have R1:=lh r1;have C1:=lh hc1;have F1:=lh f1;clear r1 hc1 f1)
   | (at_builtin;have _t:=tok1;refine wl_app_read rfl _ _ rfl (B:=w.heap.size) rfl rfl R1.out (HD.out _ C1.out) C1.out.size HDL.out ?_;intro v2 w2 r2 hc2 f2;clear tok1;have R2:=lh r2;have C2:=lh (C1.out.trans hc2 (fun j hj=>Or.inr (F1.out j hj)));have F2:=lh (fun j hj=>(f2 j hj).elim (F1.out j) (Nat.le_trans C1.out.size));clear r2 hc2 f2)
   | (at_builtin;refine wl_app_read rfl _ _ rfl (B:=w.heap.size) rfl rfl R2.out (HT.out _ C2.out) C2.out.size HTL.out ?_;intro v3 w3 r3 hc3 f3;have R3:=lh r3;have C3:=lh (C2.out.trans hc3 (fun j hj=>Or.inr (F2.out j hj)));clear r3 hc3 f3))
  go_ret
  exact⟨_,rfl,by have:=R3.out;rwa[HNE.out] at this,C3.out⟩
 cases l with
 | cons x r =>
  obtain⟨b,off,e,hc⟩:=hcell (by simp)
  exact fin b off e hc (by simp)
 | nil =>
  obtain rfl:i=0:=by simpa using hi
  simp only[List.length_nil]
  clear fin hsm hcell hm hi hn hlc
  have tok1:True:=trivial
  by_cases hcz:cap=0
  ·subst hcz
   go_enter Tryz.func138,Tryz.ntmps138
   go_wp2_with (first
    | (at_make;refine wl_make0 rfl _ _ rfl (B:=w.heap.size) (n:=0) rfl rfl (Nat.le_refl _) (by omega) ?_;intro v1 w1 r1 hc1 f1;have R1:=lh r1;have C1:=lh hc1;have F1:=lh f1;clear r1 hc1 f1)
    | (at_builtin;have _t:=tok1;refine wl_app_read rfl _ _ rfl (B:=w.heap.size) rfl rfl R1.out (IntsAt.none_ _ _ _) C1.out.size (by simp) ?_;intro v2 w2 r2 hc2 f2;clear tok1;have R2:=lh r2;have C2:=lh (C1.out.trans hc2 (fun j hj=>Or.inr (F1.out j hj)));have F2:=lh (fun j hj=>(f2 j hj).elim (F1.out j) (Nat.le_trans C1.out.size));clear r2 hc2 f2)
    | (at_builtin;refine wl_app_read rfl _ _ rfl (B:=w.heap.size) rfl rfl R2.out (IntsAt.none_ _ _ _) C2.out.size (by simp) ?_;intro v3 w3 r3 hc3 f3;have R3:=lh r3;have C3:=lh (C2.out.trans hc3 (fun j hj=>Or.inr (F2.out j hj)));clear r3 hc3 f3))
   go_ret
   exact⟨_,rfl,by have:=R3.out;simpa using this,C3.out⟩
  have hcz2:¬ (0=cap):=fun e=>hcz e.symm
  go_enter Tryz.func138,Tryz.ntmps138
  go_wp2_with (first
   | (at_make;refine wl_make0 rfl _ _ rfl (B:=w.heap.size) (n:=0) rfl rfl (Nat.le_refl _) (by omega) ?_;intro v1 w1 r1 hc1 f1;have R1:=lh r1;have C1:=lh hc1;have F1:=lh f1;clear r1 hc1 f1)
   | (at_builtin;have _t:=tok1;refine wl_app_read rfl _ _ rfl (B:=w.heap.size) rfl rfl R1.out (IntsAt.none_ _ _ _) C1.out.size (by simp) ?_;intro v2 w2 r2 hc2 f2;clear tok1;have R2:=lh r2;have C2:=lh (C1.out.trans hc2 (fun j hj=>Or.inr (F1.out j hj)));have F2:=lh (fun j hj=>(f2 j hj).elim (F1.out j) (Nat.le_trans C1.out.size));clear r2 hc2 f2)
   | (at_builtin;refine wl_app_read rfl _ _ rfl (B:=w.heap.size) rfl rfl R2.out (IntsAt.none_ _ _ _) C2.out.size (by simp) ?_;intro v3 w3 r3 hc3 f3;have R3:=lh r3;have C3:=lh (C2.out.trans hc3 (fun j hj=>Or.inr (F2.out j hj)));clear r3 hc3 f3))
  go_ret
  exact⟨_,rfl,by have:=R3.out;simpa using this,C3.out⟩
theorem first_any (v:Value) (l:List Int) (w:World) (hn:l.length<2147483648) (hcap:CapOk v) (h:IntsAt w v l) :
  Calls Tryz.prog 90 #[v] w fun e w'=>∃ v',e=.returned v'∧RowAt w' w.heap.size v' (Plain.first l)∧Chg [] w w':=by
 have H:=lh h
 have HCAP:=lh hcap
 obtain⟨ao,cap,rfl,hsm,hm,hcell⟩:=h
 have HCE:=lh hcell
 clear hsm hcell hcap
 go_enter Tryz.func90,Tryz.ntmps90
 go_wp2
 go_loopw [3,8] (fun m c wr=>∃ k:Nat,k≤l.length∧c=.int .i64 k∧m=.int .i64 (Plain.lst l k:Nat)∧Chg [] w wr) (fun _ c _=>l.length - (intOf c).toNat)
 case atStart=>exact⟨0,Nat.zero_le _,rfl,rfl,Chg.refl _ _⟩
 case round =>
  obtain⟨k,hk,rfl,rfl,hc⟩:=hrel
  have HC:=lh hc
  by_cases hlt:k<l.length
  ·obtain⟨b,off,rfl,hfc⟩:=HCE.out (by intro e;rw[e] at hlt;simp at hlt)
   have hml:=Plain.lst_lt (l:=l) (by omega) k hk
   have c0:=hc.cell (hfc k hlt) (by simp)
   have c1:=hc.cell (hfc _ hml) (by simp)
   have HL:=lh (show Plain.lst l (k+1)=if l.getD k 0<l.getD (Plain.lst l k) 0 then k else Plain.lst l k from rfl)
   clear hfc hc
   generalize Plain.lst l k=m at *
   generalize l.getD k 0=x at *
   generalize l.getD m 0=y at *
   by_cases hxy:x<y
   ·go_wp2
    go_roundw
    case rel=>exact⟨k+1,by omega,by go_num,by rw[HL.out,if_pos hxy],HC.out⟩
    case measure=>simp[intOf];omega
   go_wp2
   go_roundw
   case rel=>exact⟨k+1,by omega,by go_num,by rw[HL.out,if_neg hxy],HC.out⟩
   case measure=>simp[intOf];omega
  have e:k=l.length:=by omega
  subst e
  have hle:=Plain.lst_le l l.length
  clear hc
  go_wp2_with fail
  refine (turned_any _ l (Plain.lst l l.length) _ hle hn HCAP.out (H.out.fresh HC.out)).mono ?_
  rintro e w2 ⟨v',rfl,r2,hc2⟩
  have R2:=lh r2
  have C2:=lh hc2
  clear r2 hc2
  go_wp2
  go_ret
  exact⟨_,rfl,R2.out.base HC.out.size,HC.out.trans C2.out (by simp)⟩
theorem dart_even (g:Plain.Gr) (e:Nat):g.tail ((2*e:Nat):Int)=(g.ends e).1∧g.head ((2*e:Nat):Int)=(g.ends e).2:=by
 unfold Plain.Gr.tail Plain.Gr.head Plain.Gr.at
 rw[if_pos (by omega),if_pos (by omega),show (((2*e:Nat):Int) / 2).toNat=e by omega]
 exact⟨rfl,rfl⟩
theorem dart_odd (g:Plain.Gr) (e:Nat):g.tail ((2*e+1:Nat):Int)=(g.ends e).2∧g.head ((2*e+1:Nat):Int)=(g.ends e).1:=by
 unfold Plain.Gr.tail Plain.Gr.head Plain.Gr.at
 rw[if_neg (by omega),if_neg (by omega),show (((2*e+1:Nat):Int) / 2).toNat=e by omega]
 exact⟨rfl,rfl⟩
theorem quo_even (e:Nat):Int.tmod ((2*e:Nat):Int) 2=0∧Int.tdiv ((2*e:Nat):Int) 2=(e:Int):=by
 rw[Int.tmod_eq_emod_of_nonneg (by omega),Int.tdiv_eq_ediv_of_nonneg (by omega)]
 omega
theorem quo_odd (e:Nat):Int.tmod ((2*e+1:Nat):Int) 2=1∧Int.tdiv ((2*e+1:Nat):Int) 2=(e:Int):=by
 rw[Int.tmod_eq_emod_of_nonneg (by omega),Int.tdiv_eq_ediv_of_nonneg (by omega)]
 omega
theorem target_any (v:Value) (g:Plain.Gr) (d:Nat) (w:World) (hd:d / 2<g.e.length) (hm:g.e.length<4294967296) (h:GrAt w v g) :
  Calls Tryz.prog 207 #[v,.int .i64 d] w fun e w'=>e=.returned (.int .i64 (g.head d))∧Chg [] w w':=by
 obtain⟨eo,cap,rfl,-,-,-,hcell⟩:=h
 obtain⟨b,off,rfl,hc0,hc1⟩:=hcell (d / 2) hd
 have HC1:=lh ((Chg.refl [] w).alloc (.cells #[.int .i64 g.n,.slice (some ⟨b,off,none⟩) g.e.length cap] 24))
 obtain⟨e,he⟩:∃ e,d / 2=e:=⟨_,rfl⟩
 rw[he] at hd hc0 hc1
 have c0:=fun o=>cellNew hc0 o
 have c1:=fun o=>cellNew hc1 o
 clear hcell hc0 hc1
 rcases (show d=2*e∨d=2*e+1 by omega) with rfl | rfl
 ·obtain⟨q1,q2⟩:=quo_even e
  have HE:=lh (dart_even g e).2
  rw[HE.out]
  clear he
  generalize ((2*e:Nat):Int)=dd at *
  generalize (g.ends e).1=x at *
  generalize (g.ends e).2=y at *
  go_enter Tryz.func207,Tryz.ntmps207
  go_wp2
  go_ret
  exact⟨rfl,HC1.out⟩
 obtain⟨q1,q2⟩:=quo_odd e
 have HE:=lh (dart_odd g e).2
 rw[HE.out]
 clear he
 generalize ((2*e+1:Nat):Int)=dd at *
 generalize (g.ends e).1=x at *
 generalize (g.ends e).2=y at *
 go_enter Tryz.func207,Tryz.ntmps207
 go_wp2
 go_ret
 exact⟨rfl,HC1.out⟩
theorem leaves_any (v:Value) (g:Plain.Gr) (d:Nat) (w:World) (hd:d / 2<g.e.length) (hm:g.e.length<4294967296) (h:GrAt w v g) :
  Calls Tryz.prog 162 #[v,.int .i64 d] w fun e w'=>e=.returned (.int .i64 (g.tail d))∧Chg [] w w':=by
 obtain⟨eo,cap,rfl,-,-,-,hcell⟩:=h
 obtain⟨b,off,rfl,hc0,hc1⟩:=hcell (d / 2) hd
 have HC1:=lh ((Chg.refl [] w).alloc (.cells #[.int .i64 g.n,.slice (some ⟨b,off,none⟩) g.e.length cap] 24))
 obtain⟨e,he⟩:∃ e,d / 2=e:=⟨_,rfl⟩
 rw[he] at hd hc0 hc1
 have c0:=fun o=>cellNew hc0 o
 have c1:=fun o=>cellNew hc1 o
 clear hcell hc0 hc1
 rcases (show d=2*e∨d=2*e+1 by omega) with rfl | rfl
 ·obtain⟨q1,q2⟩:=quo_even e
  have HE:=lh (dart_even g e).1
  rw[HE.out]
  clear he
  generalize ((2*e:Nat):Int)=dd at *
  generalize (g.ends e).1=x at *
  generalize (g.ends e).2=y at *
  go_enter Tryz.func162,Tryz.ntmps162
  go_wp2
  go_ret
  exact⟨rfl,HC1.out⟩
 obtain⟨q1,q2⟩:=quo_odd e
 have HE:=lh (dart_odd g e).1
 rw[HE.out]
 clear he
 generalize ((2*e+1:Nat):Int)=dd at *
 generalize (g.ends e).1=x at *
 generalize (g.ends e).2=y at *
 go_enter Tryz.func162,Tryz.ntmps162
 go_wp2
 go_ret
 exact⟨rfl,HC1.out⟩
end Go.Proofs.YtkacjmoamgjfpaaGreat
namespace Go.Proofs.YtkacjmoamgjfpaaGreat
open Go.RowKit Go.Maps Go.ChangeShapes
def SMap (w:World) (b n:Nat) (f:Int→List Int):Prop :=
 ∃ D:DataW Unit,w.ownsGroups Tryz.prog 3 (b+1) 3 .i64 b n D ∧
  ∀ x,I64 x→(f x=[]∧D.atKey (.int .i64 x) .nil=.nil)∨D.atKey (.int .i64 x) .nil=.slice (lits .i64 (f x)) []
theorem zeroRow (w:World):(zeroValue 27).run Tryz.prog w=.ok (.slice none 0 0) w:=by kernel_rfl
theorem SMap.made (w:World):SMap (w.alloc (.map #[] 0)) w.heap.size 0 (fun _=>[]) :=
 ⟨.map [],World.ownsGroups_made _ _ _ _ _,fun _ _=>Or.inl ⟨rfl,rfl⟩⟩
theorem SMap.lt {w:World} {b n:Nat} {f:Int→List Int} (h:SMap w b n f):b<w.heap.size:=by
 obtain⟨D,⟨es,clock,hb,-⟩,-⟩:=h
 exact (Array.getElem?_eq_some_iff.1 hb).1
theorem lits_inj {a c:List Int} (h:(lits .i64 a:List (DataW Unit))=lits .i64 c):a=c:=by
 induction a generalizing c with
 | nil=>cases c with
  | nil=>rfl
  | cons _ _=>simp[lits] at h
 | cons x a ih=>cases c with
  | nil=>simp[lits] at h
  | cons y c =>
   simp only[lits,List.map_cons,List.cons.injEq] at h
   obtain⟨h1,h2⟩:=h
   have:x=y:=by simpa using h1
   rw[this,ih h2]
theorem SMap.list {w:World} {f:Int→List Int} {D:DataW Unit} {x:Int} {v:Value} {zs:List Int} {base:Nat} (h:(f x=[]∧D.atKey (.int .i64 x) .nil=.nil)∨D.atKey (.int .i64 x) .nil=.slice (lits .i64 (f x)) []) (hat:D.atKey (.int .i64 x) .nil=rowDatum .i64 v zs) (ho:w.ownsInts base 3 .i64 v zs):zs=f x:=by
 rcases ho.datum (H:=Unit) with ⟨e,rfl⟩ | e
 ·rw[e] at hat
  rcases h with ⟨h1,_⟩ | h2
  ·exact h1.symm
  rw[hat] at h2;cases h2
 rw[e] at hat
 rcases h with ⟨_,h2⟩ | h2
 ·rw[hat] at h2;cases h2
 rw[hat] at h2
 simp only[DataW.slice.injEq,and_true] at h2
 exact lits_inj h2
def SBack (w:World) (b n:Nat) (f:Int→List Int) (k:Int) (v:Value):Prop :=
 ∀ (w1:World) (v':Value) (x:Int),RowAt w1 (b+1) v' (f k++[x])→Chg (foot v) w w1→(∀ j∈foot v',j∈foot v∨w.heap.size≤j) →
  ∃ w2,(Instr.mapUpdate 119 (.map (some b)) (.int .i64 k) v').run Tryz.prog w1=.ok () w2∧SMap w2 b (n+1) (fun y=>if y=k then f k++[x] else f y)∧Chg [b] w1 w2
theorem owns_row {w:World} {B:Nat} {v:Value} {l:List Int} (h:w.ownsInts B 3 .i64 v l) (hn:l.length<4294967296):RowAt w B v l:=⟨h.1,h.2,hn⟩
theorem row_owns {w:World} {B:Nat} {v:Value} {l:List Int} (h:RowAt w B v l):w.ownsInts B 3 .i64 v l:=⟨h.1,h.2.1⟩
theorem SMap.look {w:World} {b n:Nat} {f:Int→List Int} (h:SMap w b n f) (hn:n<4294967296) {k:Int} (hk:I64 k) :
  ∃ v,(Instr.lookup 119 (.map (some b)) (.int .i64 k) false).run Tryz.prog w=.ok v w∧RowAt w (b+1) v (f k)∧(f k).length≤n∧SBack w b n f k v:=by
 obtain⟨D,ho,hD⟩:=h
 have hkey:=keyOf_int_mk Tryz.underlying3 hk
 obtain⟨v,zs,hr,hat,hoi,hzl,hback⟩:=ho.at keyedInt Tryz.underlying119 (zeroRow w) (by unfold maxLen;omega) hkey
 obtain rfl:=SMap.list (hD k hk) hat hoi
 refine⟨v,hr,owns_row hoi (by omega),hzl,fun w1 v' x hrow hc hf=>?_⟩
 have hfo:foot v=v.ownBlock.toList:=(owns_row hoi (by omega)).foot
 have hfo':foot v'=v'.ownBlock.toList:=hrow.foot
 have hgr:w.grownBy w1 v.ownBlock:=hc.grownBy (fun j hj=>by rw[hfo] at hj;exact (show v.ownBlock=some j by simpa using hj).symm)
 obtain⟨g,c,e⟩:=owns_some hrow.1 (by simp)
 have hloc:v'.ownBlock=v.ownBlock∨∃ g,v'.ownBlock=some g∧w.heap.size≤g:=by
  have hb:v'.ownBlock=some g:=by rw[e];rfl
  rcases hf g (by rw[hfo',hb];simp) with q | q
  ·left
   rw[hfo] at q
   rw[hb]
   exact (show v.ownBlock=some g by simpa using q).symm
  exact Or.inr ⟨g,hb,q⟩
 obtain⟨w2,hr2,h2,h3⟩:=hback w1 v' (f k++[x]) hgr (row_owns hrow) (by simp;omega) hloc
 refine⟨w2,hr2,⟨_,h2,fun y hy=>?_⟩,(Chg.refl _ _).grown h3 (fun j hj=>by cases hj;exact Or.inl (by simp))⟩
 have hdat:(rowDatum .i64 v' (f k++[x]):DataW Unit)=.slice (lits .i64 (f k++[x])) []:=(row_owns hrow).datum_pos (by simp)
 obtain⟨es,clock,hbm,F,hs,hDe,-⟩:=ho
 by_cases e1:y=k
 ·subst e1
  right
  rw[atKey_put_same ⟨_,hDe⟩ (keyedInt.key hkey),hdat]
  simp
 rw[atKey_put_other (litNe e1)]
 simp only[if_neg e1]
 exact hD y hy
section
variable {ops : Array Oper} {rest : List Oper} {o : Oper} {a : Act} {Q : Exit → Act → World → Prop} {w : World}
theorem wl_slook (hg:o.guard=none) (m x:Operand) (hop:o.op=Op.lookup 119 m x false) {b n:Nat} {f:Int→List Int} (h:SMap w b n f) (hn:n<4294967296) (hm:a.eval m=.map (some b)) {k:Int} (hk:I64 k) (hx:a.eval x=.int .i64 k)
  (hK:∀ v,RowAt w (b+1) v (f k)→(f k).length≤n→SBack w b n f k v→wpList Tryz.prog ops Q rest (a.put o.dst v) w):wpList Tryz.prog ops Q (o :: rest) a w:=by
 refine wpList_plain hg fun K' hK'=>?_
 obtain⟨v,hrun,r1,r2,r3⟩:=h.look hn hk
 unfold Oper.wp
 simp[execOp,hop,hm,hx,hrun,Result.andThen]
 exact hK' _ _ (hK v r1 r2 r3)
theorem wl_sback {w0:World} (hg:o.guard=none) (m x u:Operand) (hop:o.op=Op.mapUpdate 119 m x u) {b n:Nat} {f:Int→List Int} {k z:Int} {v v':Value} (hb:SBack w0 b n f k v) (hm:a.eval m=.map (some b)) (hx:a.eval x=.int .i64 k) (hu:a.eval u=v')
  (hrow:RowAt w (b+1) v' (f k++[z])) (hc:Chg (foot v) w0 w) (hf:∀ j∈foot v',j∈foot v∨w0.heap.size≤j)
  (hK:∀ w2,SMap w2 b (n+1) (fun y=>if y=k then f k++[z] else f y)→Chg [b] w w2→wpList Tryz.prog ops Q rest (a.put o.dst undef) w2):wpList Tryz.prog ops Q (o :: rest) a w:=by
 refine wpList_plain hg fun K' hK'=>?_
 obtain⟨w2,hrun,r1,r2⟩:=hb w v' z hrow hc hf
 unfold Oper.wp
 simp[execOp,hop,hm,hx,hu,hrun,Result.andThen]
 exact hK' _ _ (hK w2 r1 r2)
end
end Go.Proofs.YtkacjmoamgjfpaaGreat
namespace Go.Proofs.YtkacjmoamgjfpaaGreat
open Go.RowKit Go.Maps
namespace Plain
def outs (g:Gr) (p:Pt) (k:Nat) (v:Int):List Int:=(Pt.darts ⟨[],p.e.take k⟩).filter fun d=>decide (g.tail d=v)
theorem outs_zero (g:Gr) (p:Pt):outs g p 0=fun _=>[]:=by funext v;simp[outs,Pt.darts]
theorem outs_succ {g:Gr} {p:Pt} {k e:Nat} (hk:k<p.e.length) (he:p.e.getD k 0=(e:Int)) :
  outs g p (k+1)=fun v=>outs g p k v++((if (g.ends e).1=v then [2*(e:Int)] else [])++(if (g.ends e).2=v then [2*(e:Int)+1] else [])):=by
 funext v
 have e1:p.e.take (k+1)=p.e.take k++[(e:Int)]:=by
  rw[List.take_succ_eq_append_getElem hk,←he]
  simp[List.getD,hk]
 unfold outs Pt.darts
 rw[e1,List.flatMap_append,List.filter_append]
 congr 1
 have h1:g.tail (2*(e:Int))=(g.ends e).1:=by have:=(dart_even g e).1;simpa using this
 have h2:g.tail (2*(e:Int)+1)=(g.ends e).2:=by have:=(dart_odd g e).1;simpa using this
 simp only[List.flatMap_cons,List.flatMap_nil,List.append_nil,List.filter_cons,List.filter_nil,h1,h2,decide_eq_true_eq]
 split <;> split <;> rfl
theorem outs_all (g:Gr) (p:Pt) (v:Int):outs g p p.e.length v=p.darts.filter fun d=>decide (g.tail d=v):=by
 unfold outs
 rw[List.take_length]
 rfl
end Plain
theorem outs_len (g:Plain.Gr) (p:Plain.Pt) (k:Nat) (v:Int):(Plain.outs g p k v).length≤2*k:=by
 unfold Plain.outs
 refine Nat.le_trans (List.length_filter_le _ _) ?_
 rw[Plain.darts_length]
 simp only[List.length_take]
 omega
theorem upd_two (f:Int→List Int) (a z s t:Int):(fun y=>if y=z then (if z=a then f a++[s] else f z)++[t] else (if y=a then f a++[s] else f y))=fun v=>f v++((if a=v then [s] else [])++(if z=v then [t] else [])):=by
 funext y
 by_cases h1:y=z
 ·subst h1
  by_cases h2:y=a
  ·subst h2;simp
  simp[h2,Ne.symm h2]
 by_cases h2:y=a
 ·subst h2;simp[h1,Ne.symm h1]
 simp[h1,h2,Ne.symm h1,Ne.symm h2]
theorem lit_ints (w:World) {x:Int} (hx:I64 x):IntsAt (w.alloc (.cells #[.int .i64 x] 3)) (.slice (some ⟨w.heap.size,0,none⟩) 1 1) [x]:=by
 refine⟨_,1,rfl,by simpa using hx,by simp,fun _=>⟨w.heap.size,0,rfl,fun i hi=>?_⟩⟩
 have:i=0:=by simpa using hi
 subst this
 rw[cell_of_row _ _ _ _ _ _ (heap_alloc_new w _)]
 rfl
set_option maxHeartbeats 2000000 in
theorem leaving_any (vg vp:Value) (g:Plain.Gr) (p:Plain.Pt) (w:World) (hpl:p.e.length≤1000000) (hr:p.err g=0) (hg:GrAt w vg g) (hp:PtAt w vp p) :
  Calls Tryz.prog 174 #[vg,vp] w fun e w'=>∃ b,e=.returned (.map (some b))∧SMap w' b (2*p.e.length) (fun v=>p.darts.filter fun d=>decide (g.tail d=v))∧Chg [] w w'∧w.heap.size≤b:=by
 obtain⟨hge,hrv,hre,-⟩:=Plain.Pt.err_ok hr
 obtain⟨hn0,hn1,hel,hends⟩:=Plain.Gr.err_ok hge
 have HRE:=lh hre
 obtain⟨eo,cap,rfl,hn,hm,hsm,hcell⟩:=hg
 obtain⟨v1,v2,rfl,hv,he⟩:=hp
 obtain⟨ao,ac,rfl,-,-,-⟩:=hv
 obtain⟨bo,bc,rfl,hbs,hbm,hbcell⟩:=he
 have HCE:=lh hcell
 have HBC:=lh hbcell
 have HSM:=lh hsm
 have hmm:=@run_makeMap Tryz.prog
 obtain⟨hb1,hb2,hc1⟩:=box_two w #[.int .i64 g.n,.slice eo g.e.length cap] #[.slice ao p.v.length ac,.slice bo p.e.length bc] 24 29
 have x1:=(cell_of_row _ _ 1 _ _ _ hb1).trans (show _=some (Value.slice eo g.e.length cap) from rfl)
 have y1:=(cell_of_row _ _ 1 _ _ _ hb2).trans (show _=some (Value.slice bo p.e.length bc) from rfl)
 have X1:=lh x1
 have Y1:=lh y1
 have HC1:=lh hc1
 clear hcell hbcell hsm hends hre hrv hge hr hbs hn hb1 hb2 hc1 x1
 have HM:=lh (SMap.made ((w.alloc (.cells #[.int .i64 g.n,.slice eo g.e.length cap] 24)).alloc (.cells #[.slice ao p.v.length ac,.slice bo p.e.length bc] 29)))
 have y1n:=fun o=>cellNew y1 o
 go_enter Tryz.func174,Tryz.ntmps174
 go_wp2
 clear hmm y1 y1n
 have hsz:((w.alloc (.cells #[.int .i64 g.n,.slice eo g.e.length cap] 24)).alloc (.cells #[.slice ao p.v.length ac,.slice bo p.e.length bc] 29)).heap.size=w.heap.size+1+1:=by simp
 rw[hsz] at HM
 generalize hw1:((w.alloc (.cells #[.int .i64 g.n,.slice eo g.e.length cap] 24)).alloc (.cells #[.slice ao p.v.length ac,.slice bo p.e.length bc] 29))=w1 at *
 clear hw1
 obtain⟨mb,hmb⟩:∃ mb,w.heap.size+1+1=mb:=⟨_,rfl⟩
 rw[hmb] at HM hsz ⊢
 have hwb:w.heap.size≤mb:=by omega
 generalize w.heap.size+1=pb at *
 generalize hgb:w.heap.size=gb at *
 go_loopw [14] (fun c wr=>∃ k:Nat,k≤p.e.length∧c=.int .i64 k∧Chg [] w1 wr∧SMap wr mb (2*k) (Plain.outs g p k)) (fun c _=>p.e.length - (intOf c).toNat)
 case atStart=>exact⟨0,Nat.zero_le _,rfl,(Chg.refl [] w1).alloc _,by rw[Plain.outs_zero];exact HM.out⟩
 case round =>
  obtain⟨k,hk,rfl,hc,hsm⟩:=hrel
  have HC:=lh hc
  have HS:=lh hsm
  by_cases hlt:k<p.e.length
  ·obtain⟨bb,boff,rfl,hbc⟩:=HBC.out (by intro e;rw[e] at hlt;simp at hlt)
   have ce:=hc.cell (HC1.out.cell (hbc k hlt) (by simp)) (by simp)
   have hre:=Plain.rises_at HRE.out hlt
   obtain⟨ei,hei⟩:∃ ei:Nat,p.e.getD k 0=(ei:Int):=⟨(p.e.getD k 0).toNat,by omega⟩
   have HO:=lh (Plain.outs_succ (g:=g) hlt hei)
   rw[hei] at ce hre
   have hei2:ei<g.e.length:=by omega
   have hei3:(ei:Int)≤1024:=by omega
   obtain⟨eb,eoff,rfl,hc0,hc1⟩:=HCE.out ei hei2
   obtain⟨z1,z2⟩:=HSM.out ei hei2
   have C0:=lh (HC1.out.cell hc0 (by simp))
   have C1:=lh (HC1.out.cell hc1 (by simp))
   clear hbc hc hre hei hc0 hc1 hsm
   generalize (g.ends ei).1=x at *
   generalize (g.ends ei).2=y at *
   go_wp2
   clear ce
   have hS0:(fun w':World=>w'.cell? ⟨gb,1,none⟩=some (.slice (some ⟨eb,eoff,none⟩) g.e.length cap)∧w'.cell? ⟨eb,eoff+ei*2,none⟩=some (.int .i64 x)∧w'.cell? ⟨eb,eoff+ei*2+1,none⟩=some (.int .i64 y)) wr.drew:=⟨HC.out.drew.cell X1.out (by simp),HC.out.drew.cell C0.out (by simp),HC.out.drew.cell C1.out (by simp)⟩
   refine wp_region_way (fun w':World=>w'.cell? ⟨gb,1,none⟩=some (.slice (some ⟨eb,eoff,none⟩) g.e.length cap)∧w'.cell? ⟨eb,eoff+ei*2,none⟩=some (.int .i64 x)∧w'.cell? ⟨eb,eoff+ei*2+1,none⟩=some (.int .i64 y)) [0,1,2,3,4,5,6,7,8,9,10,11,12,13] (Way.line [0,1,2,3,4,5,6,7,8,9,10,11,12,13] .done) (by kernel_rfl) (by kernel_rfl) ?_
   simp only[Way.line]
   repeat
    first
     | (refine along_off rfl (by rfl) (by rfl) (fun _ _ _ h=>h) hS0 ?_;simp only[Act.put,Z1,Z2,Z3,Z4,Z5,Z6])
     | (refine along_read (v:=?_) rfl (by rfl) (by rfl) (fun _ _ _ h=>h) hS0 (fun w' hS'=>?_) ?_;rotate_left;(focus ((try dsimp only at hS');go_simp;try with_reducible rfl));simp only[Act.put,Z1,Z2,Z3,Z4,Z5,Z6])
     | (refine along_skip rfl (by rfl) (by rfl) hS0 ?_;simp only[Act.put,Z1,Z2,Z3,Z4,Z5,Z6])
   refine along_done ?_
   clear hS0
   have HS2:=lh (show SMap wr.drew mb (2*k) (Plain.outs g p k) from HS.out)
   have HC2:=lh HC.out.drew
   have I1:I64 (2*(ei:Int)):=I64.mk (by omega) (by omega)
   have I2:I64 (2*(ei:Int)+1):=I64.mk (by omega) (by omega)
   generalize wr.drew=wd at *
   have HFL:=lh (fun v=>outs_len g p k v)
   generalize Plain.outs g p k=f0 at *
   have HSZ:=lh hsz
   have tok1:True:=trivial
   have tok2:True:=trivial
   have tok3:True:=trivial
   clear HS HC hsz
   go_wp2_with (first
    | (at_lookup;have _t:=tok1;refine wl_slook rfl _ _ rfl HS2.out (by omega) rfl z1 rfl ?_;intro v1 r1 l1 b1;clear tok1;have R1:=lh r1;have B1:=lh b1;clear r1 l1 b1)
    | (at_builtin;have _t:=tok2;refine wl_app_read rfl _ _ rfl (B:=mb+1) rfl rfl (R1.out.chg ((Chg.refl [] _).alloc _) (by simp)) (lit_ints _ I1) (by have:=HS2.out.lt;simp;omega) (by have:=HFL.out x;simp;omega) ?_;intro u1 w2 q1 c1 f1;clear tok2;have Q1:=lh q1;have D1:=lh (((Chg.refl (foot v1) wd).alloc (.cells #[.int .i64 (2*(ei:Int))] 3)).trans c1 (fun j hj=>Or.inl hj));have F1:=lh (fun j hj=>(f1 j hj).imp id (fun h=>Nat.le_trans ((Chg.refl [] wd).alloc (.cells #[.int .i64 (2*(ei:Int))] 3)).size h));clear q1 c1 f1)
    | (at_mapUpdate;have _t:=tok3;refine wl_sback rfl _ _ _ rfl B1.out rfl rfl rfl Q1.out D1.out F1.out ?_;intro w3 s3 d3;clear tok3;have S3:=lh s3;have D3:=lh d3;clear s3 d3)
    | (at_lookup;refine wl_slook rfl _ _ rfl S3.out (by omega) rfl z2 rfl ?_;intro v4 r4 l4 b4;have R4:=lh r4;have L4:=lh l4;have B4:=lh b4;clear r4 l4 b4)
    | (at_builtin;refine wl_app_read rfl _ _ rfl (B:=mb+1) rfl rfl (R4.out.chg ((Chg.refl [] _).alloc _) (by simp)) (lit_ints _ I2) (by have:=S3.out.lt;simp;omega) (by have:=L4.out;simp;omega) ?_;intro u5 w5 q5 c5 f5;have Q5:=lh q5;have D5:=lh (((Chg.refl (foot v4) w3).alloc (.cells #[.int .i64 (2*(ei:Int)+1)] 3)).trans c5 (fun j hj=>Or.inl hj));have F5:=lh (fun j hj=>(f5 j hj).imp id (fun h=>Nat.le_trans ((Chg.refl [] w3).alloc (.cells #[.int .i64 (2*(ei:Int)+1)] 3)).size h));clear q5 c5 f5)
    | (at_mapUpdate;refine wl_sback rfl _ _ _ rfl B4.out rfl rfl rfl Q5.out D5.out F5.out ?_;intro w6 s6 d6;have S6:=lh s6;have D6:=lh d6;clear s6 d6))
   have low1:∀ j∈foot v1,w1.heap.size≤j:=fun j hj=>by have:=(R1.out.low j (by rw[←R1.out.foot];exact hj)).1;have:=HSZ.out;omega
   have low4:∀ j∈foot v4,w1.heap.size≤j:=fun j hj=>by have:=(R4.out.low j (by rw[←R4.out.foot];exact hj)).1;have:=HSZ.out;omega
   have lowm:∀ j∈[mb],j∈([]:List Nat)∨w1.heap.size≤j:=fun j hj=>Or.inr (by have:=HSZ.out;simp at hj;omega)
   have HC6:=lh ((((HC2.out.trans D1.out (fun j hj=>Or.inr (low1 j hj))).trans D3.out lowm).trans D5.out (fun j hj=>Or.inr (low4 j hj))).trans D6.out lowm)
   have HS6:=lh (show SMap w6 mb (2*(k+1)) (Plain.outs g p (k+1)) by rw[HO.out,←upd_two f0 x y];exact S6.out)
   clear low1 low4 lowm
   go_wp2
   go_roundw
   case rel=>exact⟨k+1,by omega,by go_num,HC6.out,HS6.out⟩
   case measure=>simp[intOf];omega
  have e:k=p.e.length:=by omega
  subst e
  have HF:=lh (show SMap wr mb (2*p.e.length) (fun v=>p.darts.filter fun d=>decide (g.tail d=v)) by have:=HS.out;rwa[show Plain.outs g p p.e.length=fun v=>p.darts.filter fun d=>decide (g.tail d=v) from funext (Plain.outs_all g p)] at this)
  clear hsm hc
  go_wp2
  go_ret
  exact⟨mb,rfl,HF.out,HC1.out.trans HC.out (by simp),by rw[hgb];exact hwb⟩
def QRow (w:World) (H:Nat) (v:Value) (q:List Int):Prop :=
 (∀ x∈q,I64 x)∧q.length<4294967296 ∧
 ((v=.slice none 0 0∧q=[])∨∃ g off cap cur,v=.slice (some ⟨g,off,none⟩) q.length cap∧H≤g∧w.heap[g]?=some (.cells cur 3 (0,0))∧q.length≤cap∧cap≤9223372036854775807∧off+cap≤cur.size ∧
  ∀ i,i<q.length→cur[off+i]?=some (.int .i64 (q.getD i 0)))
theorem QRow.chg {w w':World} {H:Nat} {v:Value} {q:List Int} {own:List Nat} (h:QRow w H v q) (hc:Chg own w w') (hn:∀ b∈v.ownBlock.toList,b ∉ own):QRow w' H v q:=by
 obtain⟨h1,h2,h3⟩:=h
 refine⟨h1,h2,h3.imp id ?_⟩
 rintro ⟨g,off,cap,cur,rfl,k1,k2,k3⟩
 exact⟨g,off,cap,cur,rfl,k1,hc.heap k2 (hn g (by simp[Value.ownBlock])),k3⟩
theorem QRow.of_row {w:World} {H:Nat} {v:Value} {q:List Int} (h:RowAt w H v q):QRow w H v q:=by
 refine⟨h.2.1,h.2.2,?_⟩
 rcases h.1.2 with ⟨rfl,h0⟩ | ⟨g,cap,cur,rfl,hg,hh,hnc,hcm,hcs,hys⟩
 ·exact Or.inl ⟨rfl,List.length_eq_zero_iff.1 h0⟩
 refine Or.inr ⟨g,0,cap,cur,rfl,hg,hh,hnc,hcm,by omega,fun i hi=>?_⟩
 have q1:(ints q)[i]?=some (.int .i64 (q.getD i 0)):=by simp[ints,List.getD,hi]
 rw[←hys,List.getElem?_take,if_pos (by omega)] at q1
 rw[Nat.zero_add]
 simpa using q1
theorem qcells {w:World} {g off:Nat} {cur:Array Value} {q:List Int} (hh:w.heap[g]?=some (.cells cur 3 (0,0))) (hq:∀ i,i<q.length→cur[off+i]?=some (.int .i64 (q.getD i 0))):∀ j u,(ints q)[j]?=some u→w.cell? ⟨g,off+j,none⟩=some u:=by
 intro j u hj
 have hjl:j<q.length:=by have:=(List.getElem?_eq_some_iff.1 hj).1;simpa[ints] using this
 rw[cell_of_row w g (off+j) cur _ _ hh,hq j hjl,←hj]
 simp[ints,List.getD,hjl]
theorem run_qput {w:World} {H:Nat} {v:Value} {q:List Int} {x:Int} (hq:QRow w H v q) (hx:I64 x) (hH:H≤w.heap.size) (hn:q.length+1<4294967296) (ty:TypeId) :
  ∃ v' w',(Builtin.append_ #[27,27] ty #[v,.slice (some ⟨w.heap.size,0,none⟩) 1 1]).run Tryz.prog (w.alloc (.cells #[.int .i64 x] 3))=.ok v' w'∧QRow w' H v' (q++[x])∧Chg v.ownBlock.toList w w':=by
 obtain⟨h1,h2,h3⟩:=hq
 have hca:Chg [] w (w.alloc (.cells #[.int .i64 x] 3)):=(Chg.refl [] w).alloc _
 have hsz:(w.alloc (.cells #[.int .i64 x] 3)).heap.size=w.heap.size+1:=by simp
 obtain⟨i0,hi,hz0,hz1,hz2⟩:=info_parts elemInt.hi
 have hxs:∀ y∈q++[x],I64 y:=fun y hy=>(List.mem_append.1 hy).elim (h1 y) (fun e=>by simp at e;subst e;exact hx)
 have hlen:(q++[x]).length<4294967296:=by simp;omega
 have hnews:∀ j u,[Value.int .i64 x][j]?=some u→(w.alloc (.cells #[.int .i64 x] 3)).cell? ((⟨w.heap.size,0,none⟩:Addr).add j)=some u:=cell_one_new w _ _
 rcases h3 with ⟨rfl,rfl⟩ | ⟨g,off,cap,cur,rfl,hg,hh,hnc,hcm,hoc,hcs⟩
 ·obtain⟨g,c,w',hr,r1,r2,-⟩:=run_app elemInt (w0:=w) (B:=H) (v:=.slice none 0 0) (n:=0) (xs:=[]) (World.ownsRow_nil _ _ _ _) hH (cs:=#[.int .i64 x]) rfl (oneInt x) (by omega) (Or.inl rfl) ty
  exact⟨_,w',hr,QRow.of_row ⟨by simpa[ints] using r1,by simpa using hx,by simp⟩,r2⟩
 have hh1:=hca.heap hh (by simp)
 by_cases hroom:q.length+1≤cap
 ·have hr:=run_append_room_cells (P:=Tryz.prog) (w.alloc (.cells #[.int .i64 x] 3)) 27 ty 3 i0 elemInt.ht hi g off q.length cap ⟨w.heap.size,0,none⟩ 1 1 [.int .i64 x] (by rw[hz1];rfl) hnews (by intro u hu;simp at hu;subst hu;rfl) hroom
   (fun j hj=>by
    have:j=0:=by simpa using hj
    subst this
    have hlt:off+q.length<cur.size:=by omega
    rw[hz1,cell_of_row _ g _ cur _ _ hh1]
    simp[hlt])
   (fun j hj=>by simp[World.frozen?,hh1])
  rw[hz1,Nat.mul_one] at hr
  have hset:(w.alloc (.cells #[.int .i64 x] 3)).setCells g (off+q.length) [.int .i64 x]=(w.alloc (.cells #[.int .i64 x] 3)).setCell ⟨g,off+q.length,none⟩ (.int .i64 x):=rfl
  rw[hset] at hr
  refine⟨_,_,hr,⟨hxs,hlen,Or.inr ⟨g,off,cap,cur.setIfInBounds (off+q.length) (.int .i64 x),by simp,hg,heap_setCell_same hh1 _ _,by simp;omega,hcm,by simpa using hoc,fun i hi=>?_⟩⟩,?_⟩
  ·by_cases e:i=q.length
   ·subst e
    simp[List.getD,show off+q.length<cur.size by omega]
   have hi':i<q.length:=by simp at hi;omega
   rw[Array.getElem?_setIfInBounds_ne (by omega),hcs i hi']
   simp[List.getD,hi',List.getElem?_append_left hi']
  exact ((Chg.refl _ w).alloc _).setCell (Or.inl (by simp[Value.ownBlock])) _
 have hold:∀ j u,(ints q)[j]?=some u→(w.alloc (.cells #[.int .i64 x] 3)).cell? ((⟨g,off,none⟩:Addr).add j)=some u:=by
  intro j u hj
  rw[Addr.add_lit]
  exact qcells hh1 hcs j u hj
 obtain⟨v',w',hr,r1,r2⟩:=run_append_arg_grows (P:=Tryz.prog) (w.alloc (.cells #[.int .i64 x] 3)) 27 ty 3 i0 (.int .i64 0) 1 8 elemInt.ht hi hz0 hz1 hz2 elemInt.hz elemInt.h0 ⟨g,off,none⟩ q.length cap (ints q) (by simp[ints]) hold ⟨w.heap.size,0,none⟩ 1 1 [.int .i64 x] rfl hnews (by omega) (by unfold maxLen;omega) (by omega)
 have hrow:RowAt w' (w.heap.size+1) v' (q++[x]):=⟨by rw[List.length_append];rw[hsz] at r1;simpa[ints] using r1,hxs,hlen⟩
 exact⟨v',w',hr,QRow.of_row (hrow.base (by omega)),(((Chg.refl [] w).alloc _).grown r2 (by simp)).mono (by simp)⟩
theorem wl_qput {ops:Array Oper} {rest:List Oper} {o:Oper} {a:Act} {Q:Exit→Act→World→Prop} {w:World} (hg:o.guard=none) (s x:Operand) (ho:o.op=.call { callee:=.builtin .append,args:=#[s,x],argTypes:=#[27,27] })
  {H:Nat} {v:Value} {q:List Int} {z:Int} (hs:a.eval s=v) (hx:a.eval x=.slice (some ⟨w.heap.size,0,none⟩) 1 1) (hq:QRow w H v q) (hz:I64 z) (hH:H≤w.heap.size) (hn:q.length+1<4294967296)
  (hK:∀ v' w',QRow w' H v' (q++[z])→Chg v.ownBlock.toList w w'→wpList Tryz.prog ops Q rest (a.put o.dst v') w'):wpList Tryz.prog ops Q (o :: rest) a (w.alloc (.cells #[.int .i64 z] 3)):=by
 refine wpList_plain hg fun K hK'=>?_
 obtain⟨v',w',hr,r1,r2⟩:=run_qput hq hz hH hn o.type
 unfold Oper.wp execOp
 simp only[ho,resolve,invoke,builtin,Sem.run_bind,Sem.run_pure,Result.andThen_ok,List.map_toArray,List.map_cons,List.map_nil,hs,hx,hr]
 exact hK' _ _ (hK v' w' r1 r2)
def QAt (w:World) (B H:Nat) (q:List Int):Prop:=∃ v,w.heap[B]?=some (.cells #[v] 27 (0,0))∧QRow w H v q∧H≤B
def QOwn (w:World) (H:Nat) (own:List Nat):Prop:=∀ j∈own,H≤j∧∃ cs t r,w.heap[j]?=some (.cells cs t r)∧(t=3∨t=27)
theorem QRow.own {w:World} {H:Nat} {v:Value} {q:List Int} (h:QRow w H v q):QOwn w H v.ownBlock.toList:=by
 intro j hj
 rcases h.2.2 with ⟨rfl,-⟩ | ⟨g,off,cap,cur,rfl,hg,hh,-⟩
 ·simp[Value.ownBlock] at hj
 simp[Value.ownBlock] at hj
 subst hj
 exact⟨hg,cur,_,_,hh,Or.inl rfl⟩
theorem QRow.shape {w:World} {H:Nat} {v:Value} {q:List Int} (h:QRow w H v q):∃ ao c,v=.slice ao q.length c:=by
 rcases h.2.2 with ⟨rfl,rfl⟩ | ⟨g,off,cap,cur,rfl,-⟩
 ·exact⟨_,_,rfl⟩
 exact⟨_,_,rfl⟩
theorem QRow.ne {w:World} {H B:Nat} {v:Value} {q:List Int} {cs:Array Value} {r:Nat × Nat} (h:QRow w H v q) (hb:w.heap[B]?=some (.cells cs 27 r)):∀ j∈v.ownBlock.toList,j≠B:=by
 intro j hj e
 subst e
 rcases h.2.2 with ⟨rfl,-⟩ | ⟨g,off,cap,cur,rfl,hg,hh,-⟩
 ·simp[Value.ownBlock] at hj
 simp[Value.ownBlock] at hj
 subst hj
 rw[hb] at hh
 simp at hh
theorem QAt.chg {w w':World} {B H:Nat} {q:List Int} {own:List Nat} (h:QAt w B H q) (hc:Chg own w w') (hn:∀ j∈own,∀ cs t r,w.heap[j]?≠some (.cells cs t r)):QAt w' B H q:=by
 obtain⟨v,hb,hq,hH⟩:=h
 refine⟨v,hc.heap hb (fun e=>hn B e _ _ _ hb),hq.chg hc (fun j hj e=>?_),hH⟩
 obtain⟨-,cs,t,r,hh,-⟩:=hq.own j hj
 exact hn j e _ _ _ hh
theorem qput_any (B H:Nat) (q:List Int) (x:Int) (w:World) (hx:I64 x) (hH:H≤w.heap.size) (hn:q.length+1<4294967296) (h:QAt w B H q) :
  Calls Tryz.prog 232 #[.int .i64 x,.pointer (some ⟨B,0,none⟩)] w fun e w'=>e=.returned (.tuple #[])∧QAt w' B H (q++[x])∧∃ own,QOwn w H own∧Chg own w w':=by
 obtain⟨v,hb,hq,hHB⟩:=h
 have c0:w.cell? ⟨B,0,none⟩=some v:=by rw[cell_of_row _ _ _ _ _ _ hb];rfl
 have z0:w.frozen? ⟨B,0,none⟩=false:=by simp[World.frozen?,hb]
 have HNE:=lh (hq.ne hb)
 have HOW:Hid (QOwn w H (B :: v.ownBlock.toList)):=by
  intro j hj
  rcases List.mem_cons.1 hj with rfl | hj
  ·exact⟨hHB,_,_,_,hb,Or.inr rfl⟩
  exact hq.own j hj
 obtain⟨ao,c,rfl⟩:=hq.shape
 have HQ:=lh hq
 have HB:=lh hb
 have HZ:=lh z0
 have HC0:=lh c0
 clear hq hb
 go_enter Tryz.func232,Tryz.ntmps232
 go_wp2_with (at_builtin;refine wl_qput rfl _ _ rfl rfl rfl HQ.out hx hH hn ?_;intro v' w1 r1 c1;have NB:B ∉ (Value.slice ao q.length c).ownBlock.toList:=fun e=>HNE.out B e rfl;have k0:=c1.cell HC0.out NB;have kz:=c1.frozen HC0.out HZ.out NB;have KB:=lh (c1.heap HB.out NB);obtain⟨ao',c',rfl⟩:=r1.shape;have R1:=lh r1;have C1:=lh c1;clear r1 c1 NB)
 refine bodyPost_end (v:=.tuple #[]) (by simp[results,Tryz.results232,go_sem]) rfl ⟨rfl,⟨_,heap_setCell_same KB.out 0 _,?_,hHB⟩,_,HOW.out,?_⟩
 ·have hr:=R1.out.chg ((Chg.refl [B] w1).setCell (p:=⟨B,0,none⟩) (Or.inl (by simp)) (.slice ao' (q++[x]).length c')) (fun b hb=>by simpa using R1.out.ne KB.out b hb)
  simpa using hr
 exact ((show Chg (Value.slice ao q.length c).ownBlock.toList w w1 from C1.out).mono (fun j hj=>Or.inl (List.mem_cons_of_mem _ hj))).setCell (Or.inl (by simp)) _
theorem qtake_none (B H:Nat) (w:World) (h:QAt w B H []) :
  Calls Tryz.prog 233 #[.pointer (some ⟨B,0,none⟩)] w fun e w'=>e=.returned (.tuple #[.int .i64 0,.bool false])∧w=w':=by
 obtain⟨v,hb,hq,hHB⟩:=h
 have c0:w.cell? ⟨B,0,none⟩=some v:=by rw[cell_of_row _ _ _ _ _ _ hb];rfl
 obtain⟨ao,c,rfl⟩:=hq.shape
 rw[List.length_nil] at c0
 clear hq hb
 go_enter Tryz.func233,Tryz.ntmps233
 go_wp2
 exact bodyPost_ret (v:=.tuple #[.int .i64 0,.bool false]) (by simp[results,Tryz.results233,go_sem]) rfl ⟨rfl,rfl⟩
theorem qtake_some (B H:Nat) (x:Int) (q:List Int) (w:World) (h:QAt w B H (x :: q)) :
  Calls Tryz.prog 233 #[.pointer (some ⟨B,0,none⟩)] w fun e w'=>e=.returned (.tuple #[.int .i64 x,.bool true])∧QAt w' B H q∧∃ own,QOwn w H own∧Chg own w w':=by
 obtain⟨v,hb,hq,hHB⟩:=h
 have c0:w.cell? ⟨B,0,none⟩=some v:=by rw[cell_of_row _ _ _ _ _ _ hb];rfl
 have z0:w.frozen? ⟨B,0,none⟩=false:=by simp[World.frozen?,hb]
 have HNE:=hq.ne hb
 have HOW:Hid (QOwn w H [B]):=by
  intro j hj
  simp at hj
  subst hj
  exact⟨hHB,_,_,_,hb,Or.inr rfl⟩
 obtain⟨h1,h2,h3⟩:=hq
 rcases h3 with ⟨-,e⟩ | ⟨g,off,cap,cur,rfl,hg,hh,hnc,hcm,hoc,hcs⟩
 ·cases e
 have hgB:g≠B:=HNE g (by simp[Value.ownBlock])
 have ch:w.cell? ⟨g,off,none⟩=some (.int .i64 x):=by
  rw[cell_of_row w g off cur _ _ hh]
  have:=hcs 0 (by simp)
  simpa using this
 simp only[List.length_cons] at c0 hnc h2
 have fin:∀ off' cap',Hid (off'+cap'≤cur.size∧q.length≤cap'∧cap'≤9223372036854775807∧∀ i,i<q.length→cur[off'+i]?=some (.int .i64 (q.getD i 0)))→Hid (QAt (w.setCell ⟨B,0,none⟩ (.slice (some ⟨g,off',none⟩) q.length cap')) B H q):=by
  intro off' cap' hk
  obtain⟨k1,k2,k3,k4⟩:=hk.out
  refine lh ⟨_,heap_setCell_same hb 0 _,⟨fun y hy=>h1 y (by simp[hy]),by omega,Or.inr ⟨g,off',cap',cur,rfl,hg,?_,k2,k3,k1,k4⟩⟩,hHB⟩
  exact ((Chg.refl [B] w).setCell (p:=⟨B,0,none⟩) (Or.inl (by simp)) (.slice (some ⟨g,off',none⟩) q.length cap')).heap hh (by simpa using hgB)
 have hpos:(0:Int)<((q.length+1:Nat):Int):=by omega
 have hl0:(((q.length+1:Nat):Int)==0)=false:=by rw[beq_eq_false_iff_ne];omega
 have hl1:q.length+1 - 1=q.length:=by omega
 by_cases hcap:1=cap
 ·subst hcap
  have hq0:q.length=0:=by omega
  have HF:=fin off 0 (lh ⟨by omega,by omega,by omega,fun i hi=>by omega⟩)
  clear fin hb hh hcs HNE h1 hg
  go_enter Tryz.func233,Tryz.ntmps233
  go_wp2
  refine bodyPost_ret (v:=.tuple #[.int .i64 x,.bool true]) (by simp[results,Tryz.results233,go_sem]) rfl ⟨rfl,?_,[B],HOW.out,(Chg.refl _ w).setCell (Or.inl (by simp)) _⟩
  have HF2:=HF.out
  rw[hq0] at HF2
  exact HF2
 have HF:=fin (off+1) (cap - 1) (lh ⟨by omega,by omega,by omega,fun i hi=>by
  have:=hcs (i+1) (by simp;omega)
  rw[show off+1+i=off+(i+1) by omega,this]
  simp⟩)
 clear fin hb hh hcs HNE h1 hg
 go_enter Tryz.func233,Tryz.ntmps233
 go_wp2
 refine bodyPost_ret (v:=.tuple #[.int .i64 x,.bool true]) (by simp[results,Tryz.results233,go_sem]) rfl ⟨rfl,HF.out,[B],HOW.out,(Chg.refl _ w).setCell (Or.inl (by simp)) _⟩
theorem queue_any (w:World) :
  Calls Tryz.prog 221 #[] w fun e w'=>e=.returned (.tuple #[.func (.func 232) #[] #[.pointer (some ⟨w.heap.size,0,none⟩)],.func (.func 233) #[] #[.pointer (some ⟨w.heap.size,0,none⟩)]])∧QAt w' w.heap.size w.heap.size []∧Chg [] w w':=by
 have hmf:∀ (fn:Fn) (first cap:Array Value) (w:World),(Instr.makeFunc fn first cap).run Tryz.prog w=.ok (.func fn first cap) w:=fun _ _ _ _=>rfl
 have HQ:Hid (QAt (w.alloc (.cells #[.slice none 0 0] 27)) w.heap.size w.heap.size []):=⟨_,heap_alloc_new w _,⟨by simp,by simp,Or.inl ⟨rfl,rfl⟩⟩,Nat.le_refl _⟩
 have HC:=lh ((Chg.refl [] w).alloc (.cells #[.slice none 0 0] 27))
 go_enter Tryz.func221,Tryz.ntmps221
 go_wp2
 refine bodyPost_ret (v:=.tuple #[.func (.func 232) #[] #[.pointer (some ⟨w.heap.size,0,none⟩)],.func (.func 233) #[] #[.pointer (some ⟨w.heap.size,0,none⟩)]]) (by simp[results,Tryz.results221,go_sem]) rfl ⟨rfl,HQ.out,HC.out⟩
end Go.Proofs.YtkacjmoamgjfpaaGreat
namespace Go.Proofs.YtkacjmoamgjfpaaGreat.Plain
def left (p:Pt) (f:Int→Option Int):Nat:=(p.v.filter fun u=>(f u).isNone).length
theorem left_put {p:Pt} {f:Int→Option Int} {x c:Int} (hn:p.v.Nodup) (hx:x∈p.v) (hf:f x=none):left p (fun y=>if y=x then some c else f y)+1=left p f:=by
 unfold left
 generalize p.v=l at *
 have none_:∀ {l:List Int},x ∉ l→(l.filter fun u=>(if u=x then some c else f u).isNone)=l.filter fun u=>(f u).isNone:=by
  intro l hl
  refine List.filter_congr fun u hu=>?_
  rw[if_neg (fun e=>hl (by rw[←e];exact hu))]
 induction l with
 | nil=>simp at hx
 | cons y l ih =>
  rw[List.nodup_cons] at hn
  by_cases e:y=x
  ·subst e
   rw[List.filter_cons_of_neg (by simp),List.filter_cons_of_pos (by simp[hf]),none_ hn.1]
   rfl
  have hx':x∈l:=(List.mem_cons.1 hx).resolve_left (fun q=>e q.symm)
  have:=ih hn.2 hx'
  cases hy:f y with
  | none=>rw[List.filter_cons_of_pos (by simp[e,hy]),List.filter_cons_of_pos (by simp[hy]),List.length_cons,List.length_cons];omega
  | some z=>rw[List.filter_cons_of_neg (by simp[e,hy]),List.filter_cons_of_neg (by simp[hy])];exact this
structure Bfs (g:Gr) (p:Pt) (shut a:Int) (f:Int→Option Int) (m:Nat):Prop where
 base:f a≠none
 come:∀ u,f u≠none→Come g p shut a u
 inV:∀ u,f u≠none→u∈p.v
 val:∀ u c,f u=some c→0≤c∧c+(left p f:Int)≤p.v.length
 cnt:m+left p f≤p.v.length
def Done (g:Gr) (p:Pt) (shut:Int) (f:Int→Option Int) (u:Int):Prop:=∀ x,Near g p u x→x≠shut→f x≠none
theorem Bfs.start {g:Gr} {p:Pt} {shut a:Int} (hp:PartOk g p) (ha:a∈p.v):Bfs g p shut a (fun y=>if y=a then some 0 else none) (0+1):=by
 have hl:=left_put (f:=fun _=>none) (c:=0) hp.vn ha rfl
 have h0:left p (fun _=>none)=p.v.length:=by unfold left;rw[List.filter_eq_self.2 (by simp)]
 refine⟨by simp,fun u hu=>?_,fun u hu=>?_,fun u c hu=>?_,by omega⟩
 ·by_cases e:u=a
  ·subst e;exact .here
  simp[e] at hu
 ·by_cases e:u=a
  ·subst e;exact ha
  simp[e] at hu
 by_cases e:u=a
 ·simp[e] at hu;subst hu;omega
 simp[e] at hu
theorem Bfs.add {g:Gr} {p:Pt} {shut a v x c:Int} {f:Int→Option Int} {m:Nat} (h:Bfs g p shut a f m) (hp:PartOk g p) (hx:x∈p.v) (hn:Near g p v x) (hs:x≠shut) (hv:f v=some c) (hf:f x=none):Bfs g p shut a (fun y=>if y=x then some (c+1) else f y) (m+1):=by
 have hl:=left_put (f:=f) (c:=c+1) hp.vn hx hf
 have hc:=h.val v c hv
 have hm:=h.cnt
 refine⟨?_,fun u hu=>?_,fun u hu=>?_,fun u d hu=>?_,by omega⟩
 ·show (if a=x then some (c+1) else f a)≠none
  by_cases e:a=x
  ·simp[e]
  rw[if_neg e];exact h.base
 ·by_cases e:u=x
  ·subst e;exact (h.come v (by rw[hv];simp)).step hn hs
  exact h.come u (by simpa[e] using hu)
 ·by_cases e:u=x
  ·subst e;exact hx
  exact h.inV u (by simpa[e] using hu)
 by_cases e:u=x
 ·simp[e] at hu;subst hu;omega
 have:=h.val u d (by simpa[e] using hu);omega
theorem Done.add {g:Gr} {p:Pt} {shut u x c:Int} {f:Int→Option Int} (h:Done g p shut f u):Done g p shut (fun y=>if y=x then some c else f y) u:=by
 intro z hz hs
 show (if z=x then some c else f z)≠none
 by_cases e:z=x
 ·simp[e]
 rw[if_neg e];exact h z hz hs
theorem near_iff {g:Gr} {p:Pt} (_hp:PartOk g p) {u x:Int}:Near g p u x↔∃ d∈p.darts.filter fun d=>decide (g.tail d=u),g.head d=x:=by
 constructor
 ·rintro ⟨e,he,h | h⟩
  ·have h1:=tail_even g e
   refine⟨2*e,List.mem_filter.2 ⟨mem_darts.2 (by rwa[show 2*e / 2=e by omega]),?_⟩,?_⟩
   ·rw[h1.1,h];simp
   rw[h1.2,h]
  have hd:2*e∈p.darts:=mem_darts.2 (by rwa[show 2*e / 2=e by omega])
  have h1:=tail_even g e
  refine⟨twin (2*e),List.mem_filter.2 ⟨twin_mem hd,?_⟩,?_⟩
  ·rw[tail_twin,h1.2,h];simp
  rw[←tail_twin,twin_twin,h1.1,h]
 rintro ⟨d,hd,rfl⟩
 obtain⟨h1,h2⟩:=List.mem_filter.1 hd
 have h2:g.tail d=u:=by simpa using h2
 rw[←h2]
 exact near_dart h1
theorem Bfs.all {g:Gr} {p:Pt} {shut a:Int} {f:Int→Option Int} {m:Nat} (h:Bfs g p shut a f m) (hd:∀ u,f u≠none→Done g p shut f u) (v:Int):f v≠none↔Come g p shut a v:=by
 refine⟨h.come v,fun hc=>?_⟩
 induction hc with
 | here=>exact h.base
 | step _ hn hs ih=>exact hd _ ih _ hn hs
end Go.Proofs.YtkacjmoamgjfpaaGreat.Plain
