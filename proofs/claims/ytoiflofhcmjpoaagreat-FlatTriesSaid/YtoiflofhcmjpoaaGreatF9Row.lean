/- Rows of ints of a call's own: appends, stores, literals; lists of lists; calls inside drawn regions. Conditions: what each law says. -/
import Derived.Test.YtoiflofhcmjpoaaGreatF9Rows2
import Derived.Test.YtoiflofhcmjpoaaGreatF9Lin
import Derived.Laws.OwnMore
import Derived.Maps.OwnRows
import Derived.Maps.GroupsBeside
open List renaming map_cons→Qa,map_toArray→Qb,length_drop→Qc,length_eq_zero_iff→Qd,length_append→Qh,map_nil→Qi,mem_append→Qk,length_set→Ql
open Go.Value renaming slice→Qe,ownBlock→Qf
open Nat renaming mul_le_mul_left→Qg,le_trans→Qm
open Or renaming inl→Qj
open Option renaming some→Qn
namespace Go.Proofs.YtoiflofhcmjpoaaGreat
open Plain
open Go.RowKit Go.Maps
variable {e:TypeId} {z v u ov:Value} {bytes B B' n g cap k:Nat} {w w':World} {m l:List Int} {xs ys:List Value} {o:Oper} {a:Act} {K:Act->World->Prop} {Q:Exit->Act->World->Prop} {ops:Array Oper} {rest:List Oper}
theorem JV {t:TypeId} {size:Nat} (E:qg t e z size bytes) {m:Nat} (b9:w.ownsRow B e size v n xs) (FW:w.ownsRow B' e size u m ys) (hB:B<=w.heap.size)
  (h1:∀ y∈ys,y.oneCell'=true) (hn:n+m<68719476736) (ty:TypeId) :
  ∃ v' w',(Builtin.append_ #[t,t] ty #[v,u]).run Tryz.prog w=.ok v' w'/\w'.ownsRow B e size v' (n+m) (xs++ys)/\ai v.ownBlock.toList w w'/\(∀ b∈v'.ownBlock.toList,b∈v.ownBlock.toList\/w.heap.size<=b):=by
 obtain⟨i0,hi,Er,kA,uC⟩:=info_parts E.hi;have hb:=E.hb;rcases FW.2 with ⟨rfl,rfl⟩ | ⟨g,cap,cur,rfl,hg,hh,Dc,kB,ja,hys⟩
 ·have hy:ys=[]:=Qd.1 (by rw[FW.1];simp)
  subst hy;exact⟨v,w,run_append_owned_none w B t ty e i0 size E.ht hi v n xs b9,by grind,ai.refl _ _,λb hb=>Qj hb⟩
 have hl:=FW.1;have vR:∀ j y,ys[j]?=some y->w.cell? ((⟨g,0,none⟩:Addr).add j)=some y:=by
  intro j y hy;have mC:(⟨g,0,none⟩:Addr).add j=⟨g,j,none⟩:=by unfold Addr.add;split <;> simp_all
  rw[mC,cell_of_row w _ j cur e (0,0) hh]
  all_goals grind
 obtain⟨v',w',hr,h2,h3,-,h5⟩:=run_append_own_at (P:=Tryz.prog) w B t ty e i0 z size bytes E.ht hi Er kA uC E.hz E.h0 v n xs b9 ⟨g,0,none⟩ m cap ys hl vR h1 (by unfold maxLen;omega) (Qm (Qg _ hb) (by omega)) hB;refine⟨v',w',hr,h2,(ai.refl _ _).grown h3 (λj hj=>Qj (by grind)),λb hb=>?_⟩
 all_goals grind
theorem CO {t:TypeId} {size:Nat} (E:qg t e z size bytes) (s x:Operand) (ho:o.op=.call { callee:=.builtin .append,args:=#[s,x],argTypes:=#[t,t] })
  {m:Nat} (hs:a.eval s=v) (hx:a.eval x=u) (b9:w.ownsRow B e size v n xs) (FW:w.ownsRow B' e size u m ys) (hB:B<=w.heap.size)
  (h1:∀ y∈ys,y.oneCell'=true) (hn:n+m<68719476736)
  (hK:∀ v' w',w'.ownsRow B e size v' (n+m) (xs++ys)->ai v.ownBlock.toList w w'->(∀ b∈v'.ownBlock.toList,b∈v.ownBlock.toList\/w.heap.size<=b)->K (a.put o.dst v') w'):o.wp Tryz.prog a w K Q:=by
 obtain⟨v',w',hr,r1,r2,r3⟩:=JV E b9 FW hB h1 hn o.type;unfold Oper.wp execOp;simp only[ho,resolve,invoke,builtin,Sem.run_bind,Sem.run_pure,Result.andThen_ok,Qb,Qa,Qi,hs,hx,hr];exact hK v' w' r1 r2 r3
def aw (w:World) (B:Nat) (v:Value) (l:List Int):Prop:=w.ownsRow B 3 1 v l.length (ints l)/\(∀ x∈l,bF x)/\l.length<4294967296
theorem aw.ints (h:aw w B v l):aI w v l:=by
 obtain⟨h,h1,h2⟩:=h;rcases h.2 with ⟨rfl,h0⟩ | ⟨g,cap,cur,rfl,hg,hh,Dc,kB,ja,hys⟩
 ·have:l=[]:=Qd.1 h0
  subst this;exact aI.nil _
 refine⟨_,cap,rfl,h1,by omega,λ_=>⟨g,0,rfl,λi hi=>?_⟩⟩;rw[Nat.zero_add,cell_of_row w _ i cur 3 (0,0) hh];have:cur.toList[i]?=some (.int .i64 (l.getD i 0)):=by
  have q:(Go.Proofs.YtoiflofhcmjpoaaGreat.ints l)[i]?=some (.int .i64 (l.getD i 0)):=by simp[Go.Proofs.YtoiflofhcmjpoaaGreat.ints,List.getD,hi]
  rw[<-hys,List.getElem?_take,if_pos (by omega)] at q;exact q
 simpa using this
theorem aw.aL {own:List Nat} (h:aw w B v l) (hc:ai own w w') (hn:∀ b∈v.ownBlock.toList,b ∉ own):aw w' B v l :=
 ⟨bG h.1 hc (λb hb=>hn b (by rw[hb];simp)),h.2⟩
theorem aw.low (h:aw w B v l):∀ b∈v.ownBlock.toList,B<=b/\b<w.heap.size:=λb hb=>h.1.lt b (by simpa using hb)
theorem jG (ao:Option Addr) (n c:Nat):aC (.slice ao n c)=(Qe ao n c).ownBlock.toList:=rfl
theorem aw.shape (h:aw w B v l):∃ ao c,v=.slice ao l.length c:=bR h.1
theorem aw.aC {w:World} {B:Nat} {v:Value} {l:List Int} (h:aw w B v l):aC v=v.ownBlock.toList:=by
 obtain⟨ao,c,rfl⟩:=h.shape;rfl
theorem CT:∀ y∈ints l,y.oneCell'=true:=by
 intro y hy;simp only[ints,List.mem_map] at hy;obtain⟨x,-,rfl⟩:=hy;rfl
theorem Sz (s x:Operand) (ho:o.op=.call { callee:=.builtin .append,args:=#[s,x],argTypes:=#[25,25] })
  (hs:a.eval s=v) (hx:a.eval x=u) (h1:aw w B v l) (h2:aw w B' u m) (hB:B<=w.heap.size) (hn:l.length+m.length<4294967296)
  (hK:∀ v' w',aw w' B v' (l++m)->ai (aC v) w w'->(∀ b∈aC v',b∈aC v\/w.heap.size<=b)->K (a.put o.dst v') w'):o.wp Tryz.prog a w K Q :=
 CO cM s x ho hs hx h1.1 h2.1 hB CT (by omega) λv' w' r1 r2 r3=>by
  have hr:aw w' B v' (l++m):=⟨by rw[Qh];simpa[ints] using r1,λy hy=>(Qk.1 hy).elim (h1.2.1 y) (h2.2.1 y),by rw[Qh];exact hn⟩;exact hK v' w' hr (by rw[h1.aC];exact r2) (λb hb=>by rw[h1.aC];exact r3 b (by rw[<-hr.aC];exact hb))
theorem aw.base (h:aw w B' v l) (hB:B<=B'):aw w B v l:=by
 obtain⟨⟨h0,h1⟩,h2⟩:=h;refine⟨⟨h0,h1.imp id ?_⟩,h2⟩;rintro ⟨g,cap,cur,e,q,r⟩;exact⟨g,cap,cur,e,by omega,r⟩
section
variable {ops : Array Oper} {Q : Exit -> Act -> World -> Prop} {fr : (Nat -> Value) -> Act} {z : Nat} {fin : List Nat} {w1 : World} {i : Nat} {rest : List (Oper × Info)} {L : List (Value -> World -> Prop)} {o : Oper} {d : Info}
end
theorem aw.some {w:World} {B:Nat} {ao:Option Addr} {n c:Nat} {l:List Int} (h:aw w B (.slice ao n c) l) (hl:0<l.length):∃ g,ao=some ⟨g,0,none⟩/\∀ i,i<l.length->w.cell? ⟨g,i,none⟩=.some (.int .i64 (l.getD i 0)):=by
 rcases h.1.2 with ⟨e,h0⟩ | ⟨g,cap,cur,e,-,hh,-⟩
 ·omega
 obtain⟨ao',c',e1,h1,h2,h3⟩:=h.ints;obtain⟨b,off,rfl,h4⟩:=h3 (by intro q;rw[q] at hl;simp at hl);simp only[Qe.injEq] at e e1;obtain⟨rfl,-,-⟩:=e;obtain⟨e2,-,-⟩:=e1;simp only[Qn.injEq,Addr.mk.injEq] at e2;obtain⟨rfl,rfl,-⟩:=e2;exact⟨_,rfl,λi hi=>by simpa using h4 i hi⟩
theorem aaQ (hg:o.guard=none) (s x:Operand) (ho:o.op=.call { callee:=.builtin .append,args:=#[s,x],argTypes:=#[25,25] })
  (hs:a.eval s=v) (hx:a.eval x=u) (h1:aw w B v l) (h2:aw w B' u m) (hB:B<=w.heap.size) (hn:l.length+m.length<4294967296)
  (hK:∀ v' w',aw w' B v' (l++m)->ai (aC v) w w'->(∀ b∈aC v',b∈aC v\/w.heap.size<=b)->wpList Tryz.prog ops Q rest (a.put o.dst v') w'):wpList Tryz.prog ops Q (o :: rest) a w :=
 wpList_plain hg λ_ Bm=>Sz s x ho hs hx h1 h2 hB hn λv' w' r1 r2 r3=>Bm _ _ (hK v' w' r1 r2 r3)
theorem aw.set {c:Nat} (h:aw w B (.slice (.some ⟨g,0,none⟩) n c) l) (i:Nat) (x:Int) (hx:bF x):aw (w.setCell ⟨g,i,none⟩ (.int .i64 x)) B (.slice (.some ⟨g,0,none⟩) n c) (l.set i x):=by
 obtain⟨ao,c',e⟩:=h.shape;simp only[Qe.injEq] at e;obtain⟨-,rfl,-⟩:=e;refine⟨?_,λy hy=>?_,by rw[Ql];exact h.2.2⟩
 ·have:=(h.1.stored i (.int .i64 x)).1
  rw[Ql,_root_.Go.Proofs.YtoiflofhcmjpoaaGreat.ints,List.map_set];exact this
 rcases List.mem_or_eq_of_mem_set hy with q | q
 ·exact h.2.1 y q
 all_goals grind
theorem aw.free {c:Nat} (h:aw w B (.slice (.some ⟨g,0,none⟩) n c) l) (hl:0<l.length) (i:Nat):w.frozen? ⟨g,i,none⟩=false:=by
 rcases h.1.2 with ⟨e,h0⟩ | ⟨g',cap,cur,e,-,hh,-⟩
 ·omega
 simp only[Qe.injEq,Qn.injEq,Addr.mk.injEq] at e;obtain⟨⟨rfl,-⟩,-⟩:=e;simp[World.frozen?,hh]
theorem bt.add {vs:List Value} {ll:List (List Int)} (h:bt w B ov vs ll) (hv:w.ownsRow B 3 1 v l.length (ints l))
  (fy:∀ k b,k<vs.length->(vs.getD k undef).ownBlock=some b->v.ownBlock≠some b) (hn:w'.ownsRow B 25 1 (.slice (some ⟨g,0,none⟩) (vs.length+1) cap) (vs.length+1) (vs++[v])) (hc:ai ov.ownBlock.toList w w') :
  bt w' B (.slice (some ⟨g,0,none⟩) (vs.length+1) cap) (vs++[v]) (ll++[l]):=by
 have hl:=h.len;have old:∀ k,k<vs.length->(vs++[v]).getD k undef=vs.getD k undef/\(ll++[l]).getD k []=ll.getD k []:=by
  grind
 have new:(vs++[v]).getD vs.length undef=v/\(ll++[l]).getD vs.length []=l:=by
  grind
 have keep:∀ {u:Value} {m:List Int},w.ownsRow B 3 1 u m.length (ints m)->w'.ownsRow B 3 1 u m.length (ints m):=by
  intro u m hu;refine bG hu hc (λb hb e1=>?_);rcases gB hu h.out (by decide) with q | q
  all_goals grind
 refine⟨by grind,by simp[hl],λk hk=>?_,λk j hk hj bn=>?_⟩
 ·by_cases e:k<vs.length
  ·rw[(old k e).1,(old k e).2]
   exact keep (h.rows k e)
  all_goals grind
 by_cases e:k<vs.length
 ·rw[(old k e).1]
  by_cases e2:j<vs.length
  ·rw[(old j e2).1]
   exact h.apart k j e e2 bn
  have:j=vs.length:=by simp at hj;omega
  subst this;rw[new.1];cases hq:(vs.getD k undef).ownBlock with
  | none=>exact Qj rfl
  | some b=>exact Or.inr (λq=>fy k b e hq q.symm)
 have:k=vs.length:=by simp at hk;omega
 subst this;have e2:j<vs.length:=by simp at hj;omega
 rw[new.1,(old j e2).1];cases hq:(vs.getD j undef).ownBlock with
 | none =>
  grind
 | some b=>exact Or.inr (λq=>fy j b e2 hq q)
theorem kK {size:Nat} (h:w.ownsRow B' e size v n xs) (hB:B<=B'):w.ownsRow B e size v n xs:=by
 obtain⟨h0,h1⟩:=h;refine⟨h0,h1.imp id ?_⟩;rintro ⟨g,cap,cur,e,q,r⟩;exact⟨g,cap,cur,e,by omega,r⟩
theorem SR (hg:o.guard=none) (l c:Operand) (sH:o.op=Op.makeSlice 25 l c) (hl:a.eval l=.int .i64 0) (hc:a.eval c=.int .i64 n) (hB:B<=w.heap.size) (hn:n<4294967296)
  (hK:∀ v w',aw w' B v []->ai [] w w'->(∀ b∈aC v,w.heap.size<=b)->wpList Tryz.prog ops Q rest (a.put o.dst v) w'):wpList Tryz.prog ops Q (o :: rest) a w:=by
 obtain⟨i0,hi,Er,kA,uC⟩:=info_parts cM.hi;refine wpList_make_own w hg l c 25 sH B 3 i0 (.int .i64 0) 1 cM.ht hi Er kA .i64 .i64 (n:Int) n hl hc rfl ?_ (by unfold maxLen;omega) hB (λw' h1 h2=>hK _ w' ⟨h1,by simp,by simp⟩ ((ai.refl _ _).grown h2 (by simp)) (by simp[aC,Qf]))
 grind
theorem nM (h1:aw w B v l) (h2:aI w u m) (hB:B<=w.heap.size) (hn:l.length+m.length<4294967296) (ty:TypeId) :
  ∃ v' w',(Builtin.append_ #[25,25] ty #[v,u]).run Tryz.prog w=.ok v' w'/\aw w' B v' (l++m)/\ai (aC v) w w'/\(∀ b∈aC v',b∈aC v\/w.heap.size<=b):=by
 obtain⟨i0,hi,Er,kA,uC⟩:=info_parts cM.hi;have hb:=cM.hb;obtain⟨ao,cap,rfl,fx,sd,hc⟩:=h2;have fin:∀ (ad:Addr),ao=some ad->(∀ j y,(ints m)[j]?=some y->w.cell? (ad.add j)=some y)->∃ v' w',(Builtin.append_ #[25,25] ty #[v,.slice ao m.length cap]).run Tryz.prog w=.ok v' w'/\aw w' B v' (l++m)/\ai (aC v) w w'/\(∀ b∈aC v',b∈aC v\/w.heap.size<=b):=by
  rintro ad rfl vR;obtain⟨v',w',hr,r2,r3,-,r5⟩:=run_append_own_at (P:=Tryz.prog) w B 25 ty 3 i0 (.int .i64 0) 1 8 cM.ht hi Er kA uC cM.hz cM.h0 v l.length (ints l) h1.1 ad m.length cap (ints m) (by simp[ints]) vR CT (by unfold maxLen;omega) (Qm (Qg _ (Nat.le_refl _)) (by omega)) hB;have aT:aw w' B v' (l++m):=⟨by grind [ints],λy hy=>(Qk.1 hy).elim (h1.2.1 y) (fx y),by grind⟩;refine⟨v',w',hr,aT,(ai.refl _ _).grown r3 (λj hj=>Qj (by rw[h1.aC,hj];simp)),λb hb=>?_⟩;rw[aT.aC] at hb;rw[h1.aC]
  all_goals grind
 cases ao with
 | none =>
  have hm0:m=[]:=by
   grind
  subst hm0;refine⟨v,w,?_,by grind,ai.refl _ _,λb hb=>Qj hb⟩;rcases h1.1.2 with ⟨rfl,_⟩ | ⟨g,tM,cur,rfl,_,_,Dc,_⟩
  ·simp[Builtin.append_,run_underlying cM.ht,sizeOf,typeInfo,hi,Builtin.lenOf,Builtin.firstCells]
  simp[Builtin.append_,run_underlying cM.ht,sizeOf,typeInfo,hi,Builtin.lenOf,Builtin.firstCells,Dc,storeCells]
 | some ad =>
  by_cases hm0:m=[]
  ·grind [ints]
  obtain⟨b,off,e,xQ⟩:=hc hm0;cases e;refine fin ⟨b,off,none⟩ rfl λj y hy=>?_;have mC:(⟨b,off,none⟩:Addr).add j=⟨b,off+j,none⟩:=by unfold Addr.add;split <;> simp_all
  grind [ints]
theorem cH (hg:o.guard=none) (s x:Operand) (ho:o.op=.call { callee:=.builtin .append,args:=#[s,x],argTypes:=#[25,25] })
  (hs:a.eval s=v) (hx:a.eval x=u) (h1:aw w B v l) (h2:aI w u m) (hB:B<=w.heap.size) (hn:l.length+m.length<4294967296)
  (hK:∀ v' w',aw w' B v' (l++m)->ai (aC v) w w'->(∀ b∈aC v',b∈aC v\/w.heap.size<=b)->wpList Tryz.prog ops Q rest (a.put o.dst v') w'):wpList Tryz.prog ops Q (o :: rest) a w:=by
 refine wpList_plain hg λK Bm=>?_;obtain⟨v',w',hr,r1,r2,r3⟩:=nM h1 h2 hB hn o.type;unfold Oper.wp execOp;simp only[ho,resolve,invoke,builtin,Sem.run_bind,Sem.run_pure,Result.andThen_ok,Qb,Qa,Qi,hs,hx,hr];exact Bm _ _ (hK v' w' r1 r2 r3)
theorem iZ (s x:Operand) (ho:o.op=.call { callee:=.builtin .append,args:=#[s,x],argTypes:=#[25,25] })
  (hs:a.eval s=v) (hx:a.eval x=u) (h1:aw w B v l) (h2:aI w u m) (hB:B<=w.heap.size) (hn:l.length+m.length<4294967296)
  (hK:∀ v' w',aw w' B v' (l++m)->ai (aC v) w w'->(∀ b∈aC v',b∈aC v\/w.heap.size<=b)->K (a.put o.dst v') w'):o.wp Tryz.prog a w K Q:=by
 obtain⟨v',w',hr,r1,r2,r3⟩:=nM h1 h2 hB hn o.type;unfold Oper.wp execOp;simp only[ho,resolve,invoke,builtin,Sem.run_bind,Sem.run_pure,Result.andThen_ok,Qb,Qa,Qi,hs,hx,hr];exact hK v' w' r1 r2 r3
theorem bu (h:aw w B v l):∀ j∈aC v,∃ cs r,w.heap[j]?=some (.cells cs 3 r):=by
 intro j hj;rw[h.aC] at hj;rcases h.1.2 with ⟨rfl,_⟩ | ⟨g,c,cur,rfl,hb,hh,_⟩
 ·simp[Qf] at hj
 simp[Qf] at hj
 grind
namespace Plain
def LC (l:List Int):Nat->Nat
 | 0=>0
 | k+1=>if l.getD k 0<l.getD (LC l k) 0 then k else LC l k
theorem SX {l:List Int} (h:0<l.length):∀ k,k<=l.length->LC l k<l.length
 | 0,_=>h
 | k+1,hk=>by
  unfold LC;split
  ·omega
  exact SX h k (by omega)
def first (l:List Int):List Int:=l.drop (LC l l.length)++l.take (LC l l.length)
end Plain
theorem aI.drop {b off:Nat} (fx:∀ x∈l,bF x) (hm:l.length<=9223372036854775807) (hc:∀ i,i<l.length->w.cell? ⟨b,off+i,none⟩=some (.int .i64 (l.getD i 0))) (i:Nat):aI w (.slice (some ⟨b,off+i,none⟩) (l.length - i) cap) (l.drop i):=by
 refine⟨_,cap,by rw[Qc],λx hx=>fx x (List.mem_of_mem_drop hx),by rw[Qc];omega,λ_=>⟨b,off+i,rfl,λj hj=>?_⟩⟩;rw[Qc] at hj;rw[Nat.add_assoc,hc (i+j) (by omega)];simp[List.getD]
theorem kO (g:Gr) (e:Nat):g.tail ((2*e:Nat):Int)=(g.ends e).1/\g.head ((2*e:Nat):Int)=(g.ends e).2:=by
 grind [Gr.tail,Gr.head,Gr.at]
theorem mS (g:Gr) (e:Nat):g.tail ((2*e+1:Nat):Int)=(g.ends e).2/\g.head ((2*e+1:Nat):Int)=(g.ends e).1:=by
 grind [Gr.tail,Gr.head,Gr.at]
theorem pw (e:Nat):Int.tmod ((2*e:Nat):Int) 2=0/\Int.tdiv ((2*e:Nat):Int) 2=(e:Int):=by
 grind
theorem tN (e:Nat):Int.tmod ((2*e+1:Nat):Int) 2=1/\Int.tdiv ((2*e+1:Nat):Int) 2=(e:Int):=by
 grind
theorem rY (v:Value) (g:Gr) (d:Nat) (w:World) (hd:d / 2<g.e.length) (hm:g.e.length<4294967296) (h:cA w v g) :
  Calls Tryz.prog 175 #[v,.int .i64 d] w λe w'=>e=.returned (.int .i64 (g.head d))/\ai [] w w':=by
 obtain⟨eo,cap,rfl,-,-,-,aS⟩:=h;obtain⟨b,off,rfl,fs,dD⟩:=aS (d / 2) hd;have aY:=lh ((ai.refl [] w).alloc (.cells #[.int .i64 g.n,.slice (some ⟨b,off,none⟩) g.e.length cap] 24));obtain⟨e,he⟩:∃ e,d / 2=e:=⟨_,rfl⟩;rw[he] at hd fs dD;have c0:=λo=>fO fs o;have c1:=λo=>fO dD o;clear aS fs dD;rcases (show d=2*e\/d=2*e+1 by omega) with rfl | rfl
 ·obtain⟨q1,q2⟩:=pw e
  have HE:=lh (kO g e).2;rw[HE.out];clear he;generalize ((2*e:Nat):Int)=dd at *;generalize (g.ends e).1=x at *;generalize (g.ends e).2=y at *;go_enter Tryz.func175,Tryz.ntmps175;go_wp2;go_ret;exact⟨rfl,aY.out⟩
 obtain⟨q1,q2⟩:=tN e;have HE:=lh (mS g e).2;rw[HE.out];clear he;generalize ((2*e+1:Nat):Int)=dd at *;generalize (g.ends e).1=x at *;generalize (g.ends e).2=y at *;go_enter Tryz.func175,Tryz.ntmps175;go_wp2;go_ret;exact⟨rfl,aY.out⟩
theorem Av (v:Value) (g:Gr) (d:Nat) (w:World) (hd:d / 2<g.e.length) (hm:g.e.length<4294967296) (h:cA w v g) :
  Calls Tryz.prog 112 #[v,.int .i64 d] w λe w'=>e=.returned (.int .i64 (g.tail d))/\ai [] w w':=by
 obtain⟨eo,cap,rfl,-,-,-,aS⟩:=h;obtain⟨b,off,rfl,fs,dD⟩:=aS (d / 2) hd;have aY:=lh ((ai.refl [] w).alloc (.cells #[.int .i64 g.n,.slice (some ⟨b,off,none⟩) g.e.length cap] 24));obtain⟨e,he⟩:∃ e,d / 2=e:=⟨_,rfl⟩;rw[he] at hd fs dD;have c0:=λo=>fO fs o;have c1:=λo=>fO dD o;clear aS fs dD;rcases (show d=2*e\/d=2*e+1 by omega) with rfl | rfl
 ·obtain⟨q1,q2⟩:=pw e
  have HE:=lh (kO g e).1;rw[HE.out];clear he;generalize ((2*e:Nat):Int)=dd at *;generalize (g.ends e).1=x at *;generalize (g.ends e).2=y at *;go_enter Tryz.func112,Tryz.ntmps112;go_wp2;go_ret;exact⟨rfl,aY.out⟩
 obtain⟨q1,q2⟩:=tN e;have HE:=lh (mS g e).1;rw[HE.out];clear he;generalize ((2*e+1:Nat):Int)=dd at *;generalize (g.ends e).1=x at *;generalize (g.ends e).2=y at *;go_enter Tryz.func112,Tryz.ntmps112;go_wp2;go_ret;exact⟨rfl,aY.out⟩
theorem q7 {x:Int} (hk:k<l.length):x∈l.take (k+1)↔x∈l.take k\/l.getD k 0=x:=by
 rw[List.take_succ_eq_append_getElem hk]
 grind
theorem iY (v:Value) (l:List Int) (x:Int) (w:World) (h:aI w v l) :
  Calls Tryz.prog 48 #[v,.int .i64 x] w λe w'=>e=.returned (.bool (decide (x∈l)))/\ai [] w w':=by
 obtain⟨ao,cap,rfl,fx,hm,aS⟩:=h;have oe:=lh aS;clear fx aS;go_enter Tryz.func48,Tryz.ntmps48;go_wp2;go_loopw [5] (λc wr=>∃ k:Nat,k<=l.length/\c=.int .i64 k/\ai [] w wr/\Hid (x ∉ l.take k)) (λc _=>l.length - (intOf c).toNat);case atStart=>exact⟨0,Nat.zero_le _,rfl,ai.refl _ _,lh (by simp)⟩
 case round =>
  obtain⟨k,hk,rfl,hc,cX⟩:=hrel;have HC:=lh hc;by_cases aW:k<l.length
  ·obtain⟨b,off,rfl,qL⟩:=oe.out (by grind)
   have c0:=hc.c (qL k aW);have HS:=lh (q7 (x:=x) aW);have FY:=lh (λ(e:l.getD k 0=x)=>(show x∈l from List.mem_of_mem_take ((q7 (x:=x) aW).2 (Or.inr e))));clear qL hc;generalize l.getD k 0=z at *;by_cases h1:z=x
   ·have HE:=lh (decide_eq_true (FY.out h1))
    subst h1;go_wp2;go_ret;exact⟨aM HE.out.symm,HC.out⟩
   have h2:(z==x)=false:=by rw[beq_eq_false_iff_ne];exact h1
   go_wp2;go_roundw;case rel=>exact⟨k+1,by omega,by go_num,HC.out,lh (λq=>(HS.out.1 q).elim cX.out h1)⟩
   case measure=>simp[intOf];omega
  have e:k=l.length:=by omega
  subst e;have HE:=lh (decide_eq_false (by have:=cX.out;rwa[List.take_length] at this));go_wp2;go_ret;exact⟨aM HE.out.symm,HC.out⟩
open Go.RowKit Go.Maps Go.ChangeShapes
variable {w:World} {b n B:Nat} {f:Int->List Int} {a zs l:List Int} {x k:Int} {v:Value}
def SMap (w:World) (b n:Nat) (f:Int->List Int):Prop :=
 ∃ D:DataW Unit,w.ownsGroups Tryz.prog 3 (b+1) 3 .i64 b n D /\
  ∀ x,bF x->(f x=[]/\D.atKey (.int .i64 x) .nil=.nil)\/D.atKey (.int .i64 x) .nil=.slice (lits .i64 (f x)) []
theorem DT (w:World):(zeroValue 25).run Tryz.prog w=.ok (.slice none 0 0) w:=by kernel_rfl
theorem SMap.made (w:World):SMap (w.alloc (.map #[] 0)) w.heap.size 0 (λ_=>[]) :=
 ⟨.map [],World.ownsGroups_made _ _ _ _ _,λ_ _=>Qj ⟨rfl,rfl⟩⟩
theorem SMap.lt (h:SMap w b n f):b<w.heap.size:=by
 obtain⟨D,⟨es,clock,hb,-⟩,-⟩:=h
 grind
theorem yv {c:List Int} (h:(lits .i64 a:List (DataW Unit))=lits .i64 c):a=c:=by
 induction a generalizing c with
 | nil=>cases c with
  | nil=>rfl
  | cons _ _=>simp[lits] at h
 | cons x a ih=>cases c with
  | nil=>simp[lits] at h
  | cons y c =>
   simp only[lits,Qa,List.cons.injEq] at h;obtain⟨h1,h2⟩:=h;have:x=y:=by simpa using h1
   rw[this,ih h2]
theorem SMap.list {D:DataW Unit} {base:Nat} (h:(f x=[]/\D.atKey (.int .i64 x) .nil=.nil)\/D.atKey (.int .i64 x) .nil=.slice (lits .i64 (f x)) []) (eJ:D.atKey (.int .i64 x) .nil=rowDatum .i64 v zs) (ho:w.ownsInts base 3 .i64 v zs):zs=f x:=by
 rcases ho.datum (H:=Unit) with ⟨e,rfl⟩ | e
 ·rw[e] at eJ
  rcases h with ⟨h1,_⟩ | h2
  ·exact h1.symm
  rw[eJ] at h2;cases h2
 rw[e] at eJ;rcases h with ⟨_,h2⟩ | h2
 ·rw[eJ] at h2;cases h2
 rw[eJ] at h2;simp only[DataW.slice.injEq,and_true] at h2;exact yv h2
def Tr (w:World) (b n:Nat) (f:Int->List Int) (k:Int) (v:Value):Prop :=
 ∀ (w1:World) (v':Value) (x:Int),aw w1 (b+1) v' (f k++[x])->ai (aC v) w w1->(∀ j∈aC v',j∈aC v\/w.heap.size<=j) ->
  ∃ w2,(Instr.mapUpdate 97 (.map (some b)) (.int .i64 k) v').run Tryz.prog w1=.ok () w2/\SMap w2 b (n+1) (λy=>if y=k then f k++[x] else f y)/\ai [b] w1 w2
theorem tU (h:w.ownsInts B 3 .i64 v l) (hn:l.length<4294967296):aw w B v l:=⟨h.1,h.2,hn⟩
theorem FO (h:aw w B v l):w.ownsInts B 3 .i64 v l:=⟨h.1,h.2.1⟩
theorem SMap.look (h:SMap w b n f) (hn:n<4294967296) (hk:bF k) :
  ∃ v,(Instr.lookup 97 (.map (some b)) (.int .i64 k) false).run Tryz.prog w=.ok v w/\aw w (b+1) v (f k)/\(f k).length<=n/\Tr w b n f k v:=by
 obtain⟨D,ho,hD⟩:=h;have KK:=keyOf_int_mk Tryz.underlying3 hk;obtain⟨v,zs,hr,eJ,VT,Uy,aiZ⟩:=ho.at dX Tryz.underlying97 (DT w) (by unfold maxLen;omega) KK;obtain rfl:=SMap.list (hD k hk) eJ VT;refine⟨v,hr,tU VT (by omega),Uy,λw1 v' x aT hc hf=>?_⟩;have hfo:aC v=v.ownBlock.toList:=(tU VT (by omega)).aC;have avB:aC v'=v'.ownBlock.toList:=aT.aC;have hgr:w.grownBy w1 v.ownBlock:=hc.grownBy (λj hj=>by rw[hfo] at hj;exact (show v.ownBlock=some j by grind).symm);obtain⟨g,c,e⟩:=dj aT.1 (by simp);have ap5:v'.ownBlock=v.ownBlock\/∃ g,v'.ownBlock=some g/\w.heap.size<=g:=by
  have hb:v'.ownBlock=some g:=by rw[e];rfl
  rcases hf g (by grind) with q | q
  all_goals grind
 obtain⟨w2,cD,h2,h3⟩:=aiZ w1 v' (f k++[x]) hgr (FO aT) (by simp;omega) ap5;refine⟨w2,cD,⟨_,h2,λy hy=>?_⟩,(ai.refl _ _).grown h3 (λj hj=>by cases hj;exact Qj (by simp))⟩;have aot:(rowDatum .i64 v' (f k++[x]):DataW Unit)=.slice (lits .i64 (f k++[x])) []:=(FO aT).datum_pos (by simp);obtain⟨es,clock,oJ,F,hs,hDe,-⟩:=ho;by_cases e1:y=k
 ·subst e1
  right;rw[atKey_put_same ⟨_,hDe⟩ (dX.key KK),aot];simp
 rw[atKey_put_other (zA e1)]
 grind
section
variable {b n:Nat} {f:Int->List Int} {k z:Int}
variable {ops : Array Oper} {rest : List Oper} {o : Oper} {a : Act} {Q : Exit -> Act -> World -> Prop} {w : World}
theorem zg (hg:o.guard=none) (m x:Operand) (sH:o.op=Op.lookup 97 m x false) (h:SMap w b n f) (hn:n<4294967296) (hm:a.eval m=.map (some b)) (hk:bF k) (hx:a.eval x=.int .i64 k)
  (hK:∀ v,aw w (b+1) v (f k)->(f k).length<=n->Tr w b n f k v->wpList Tryz.prog ops Q rest (a.put o.dst v) w):wpList Tryz.prog ops Q (o :: rest) a w:=by
 refine wpList_plain hg λK' Bm=>?_;obtain⟨v,ke,r1,r2,r3⟩:=h.look hn hk;unfold Oper.wp;simp[execOp,sH,hm,hx,ke,Result.andThen];exact Bm _ _ (hK v r1 r2 r3)
theorem yi {w0:World} (hg:o.guard=none) (m x u:Operand) (sH:o.op=Op.mapUpdate 97 m x u) {v v':Value} (hb:Tr w0 b n f k v) (hm:a.eval m=.map (some b)) (hx:a.eval x=.int .i64 k) (hu:a.eval u=v')
  (aT:aw w (b+1) v' (f k++[z])) (hc:ai (aC v) w0 w) (hf:∀ j∈aC v',j∈aC v\/w0.heap.size<=j)
  (hK:∀ w2,SMap w2 b (n+1) (λy=>if y=k then f k++[z] else f y)->ai [b] w w2->wpList Tryz.prog ops Q rest (a.put o.dst undef) w2):wpList Tryz.prog ops Q (o :: rest) a w:=by
 refine wpList_plain hg λK' Bm=>?_;obtain⟨w2,ke,r1,r2⟩:=hb w v' z aT hc hf;unfold Oper.wp;simp[execOp,sH,hm,hx,hu,ke,Result.andThen];exact Bm _ _ (hK w2 r1 r2)
end
