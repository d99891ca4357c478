/- Rows of ints of a call's own: appends, stores, literals; lists of lists; calls inside drawn regions. Conditions: what each law says. -/
import Derived.Test.YtoiflofhcmjpoaaGreatD9Rows2
import Derived.Laws.OwnMore
import Derived.Maps.OwnRows
import Derived.Maps.GroupsBeside
import Derived.Test.YtoiflofhcmjpoaaGreatD9GraphB
import Derived.ArgAppend
open Go.Value renaming ownBlock→Qa,slice→Qb
open Nat renaming le_trans→Qc,le_refl→Qg,mul_le_mul_left→Qo,zero_add→Qv,zero_le→Qx
open Or renaming inl→Qd,inr→Qf
open List renaming length_drop→Qe,length_eq_zero_iff→Qh,map_toArray→Qi,map_cons→Qj,getD→Ql,map_nil→Qm,mem_append→Qn,getElem?_take→Qp,length_append→Qq,length_take→Qr,length_set→Qs,nil_append→Qt,length_nil→Qu
open Go.World renaming frozen?→Qk
open Option renaming some→Qw
namespace Go.Proofs.YtoiflofhcmjpoaaGreat
open Go.RowKit Go.Maps
theorem DQ {t e:TypeId} {z:Value} {size bytes:Nat} (E:nh t e z size bytes) {w:World} {B B':Nat} {v u:Value} {n m:Nat} {xs ys:List Value} (bH:w.ownsRow B e size v n xs) (CB:w.ownsRow B' e size u m ys) (hB:B<=w.heap.size)
  (h1:∀ y∈ys,y.oneCell'=true) (hn:n+m<68719476736) (ty:TypeId) :
  ∃ v' w',(Builtin.append_ #[t,t] ty #[v,u]).run Tryz.prog w=.ok v' w'/\w'.ownsRow B e size v' (n+m) (xs++ys)/\ag v.ownBlock.toList w w'/\(∀ b∈v'.ownBlock.toList,b∈v.ownBlock.toList\/w.heap.size<=b):=by
 obtain⟨i0,hi,y9,jq,nO⟩:=info_parts E.hi;have hb:=E.hb;rcases CB.2 with ⟨rfl,rfl⟩ | ⟨g,cap,cur,rfl,hg,hh,sU,oP,ja,Vj⟩
 ·have hy:ys=[]:=Qh.1 (by rw[CB.1];simp)
  subst hy;exact⟨v,w,run_append_owned_none w B t ty e i0 size E.ht hi v n xs bH,by grind,ag.refl _ _,fun b hb=>Qd hb⟩
 have hl:=CB.1;have sB:∀ j y,ys[j]?=some y->w.cell? ((⟨g,0,none⟩:Addr).add j)=some y:=by
  intro j y hy;have iu:(⟨g,0,none⟩:Addr).add j=⟨g,j,none⟩:=by unfold Addr.add;split <;> simp_all
  rw[iu,cell_of_row w _ j cur e (0,0) hh]
  all_goals grind
 obtain⟨v',w',hr,h2,h3,-,h5⟩:=run_append_own_at (P:=Tryz.prog) w B t ty e i0 z size bytes E.ht hi y9 jq nO E.hz E.h0 v n xs bH ⟨g,0,none⟩ m cap ys hl sB h1 (by unfold maxLen;omega) (Qc (Qo _ hb) (by omega)) hB;refine⟨v',w',hr,h2,(ag.refl _ _).grown h3 (fun j hj=>Qd (by grind)),fun b hb=>?_⟩
 all_goals grind
theorem yD {t e:TypeId} {z:Value} {size bytes:Nat} (E:nh t e z size bytes) {o:Oper} {a:Act} {K:Act->World->Prop} {Q:Exit->Act->World->Prop} {w:World} (s x:Operand) (ho:o.op=.call { callee:=.builtin .append,args:=#[s,x],argTypes:=#[t,t] })
  {B B':Nat} {v u:Value} {n m:Nat} {xs ys:List Value} (hs:a.eval s=v) (hx:a.eval x=u) (bH:w.ownsRow B e size v n xs) (CB:w.ownsRow B' e size u m ys) (hB:B<=w.heap.size)
  (h1:∀ y∈ys,y.oneCell'=true) (hn:n+m<68719476736)
  (hK:∀ v' w',w'.ownsRow B e size v' (n+m) (xs++ys)->ag v.ownBlock.toList w w'->(∀ b∈v'.ownBlock.toList,b∈v.ownBlock.toList\/w.heap.size<=b)->K (a.put o.dst v') w'):o.wp Tryz.prog a w K Q:=by
 obtain⟨v',w',hr,r1,r2,r3⟩:=DQ E bH CB hB h1 hn o.type;unfold Oper.wp execOp;simp only[ho,resolve,invoke,builtin,Sem.run_bind,Sem.run_pure,Result.andThen_ok,Qi,Qj,Qm,hs,hx,hr];exact hK v' w' r1 r2 r3
def aj (w:World) (B:Nat) (v:Value) (l:List Int):Prop:=w.ownsRow B 3 1 v l.length (ints l)/\(∀ x∈l,aU x)/\l.length<4294967296
theorem aj.ints {w:World} {B:Nat} {v:Value} {l:List Int} (h:aj w B v l):al w v l:=by
 obtain⟨h,h1,h2⟩:=h;rcases h.2 with ⟨rfl,h0⟩ | ⟨g,cap,cur,rfl,hg,hh,sU,oP,ja,Vj⟩
 ·have:l=[]:=Qh.1 h0
  subst this;exact al.nil _
 refine⟨_,cap,rfl,h1,by omega,fun _=>⟨g,0,rfl,fun i hi=>?_⟩⟩;rw[Qv,cell_of_row w _ i cur 3 (0,0) hh];have:cur.toList[i]?=some (.int .i64 (l.getD i 0)):=by
  have q:(Go.Proofs.YtoiflofhcmjpoaaGreat.ints l)[i]?=some (.int .i64 (l.getD i 0)):=by simp[Go.Proofs.YtoiflofhcmjpoaaGreat.ints,Ql,hi]
  rw[<-Vj,Qp,if_pos (by omega)] at q;exact q
 simpa using this
theorem aj.aD {w w':World} {B:Nat} {v:Value} {l:List Int} {own:List Nat} (h:aj w B v l) (hc:ag own w w') (hn:∀ b∈v.ownBlock.toList,b ∉ own):aj w' B v l :=
 ⟨aY h.1 hc (fun b hb=>hn b (by rw[hb];simp)),h.2⟩
theorem aj.low {w:World} {B:Nat} {v:Value} {l:List Int} (h:aj w B v l):∀ b∈v.ownBlock.toList,B<=b/\b<w.heap.size:=fun b hb=>h.1.lt b (by simpa using hb)
theorem uY (ao:Option Addr) (n c:Nat):aE (.slice ao n c)=(Qb ao n c).ownBlock.toList:=rfl
theorem aj.shape {w:World} {B:Nat} {v:Value} {l:List Int} (h:aj w B v l):∃ ao c,v=.slice ao l.length c:=bk h.1
theorem aj.aE {w:World} {B:Nat} {v:Value} {l:List Int} (h:aj w B v l):aE v=v.ownBlock.toList:=by
 obtain⟨ao,c,rfl⟩:=h.shape;rfl
theorem ya {l:List Int}:∀ y∈ints l,y.oneCell'=true:=by
 intro y hy;simp only[ints,List.mem_map] at hy;obtain⟨x,-,rfl⟩:=hy;rfl
theorem Mk {o:Oper} {a:Act} {K:Act->World->Prop} {Q:Exit->Act->World->Prop} {w:World} (s x:Operand) (ho:o.op=.call { callee:=.builtin .append,args:=#[s,x],argTypes:=#[25,25] })
  {B B':Nat} {v u:Value} {l m:List Int} (hs:a.eval s=v) (hx:a.eval x=u) (h1:aj w B v l) (h2:aj w B' u m) (hB:B<=w.heap.size) (hn:l.length+m.length<4294967296)
  (hK:∀ v' w',aj w' B v' (l++m)->ag (aE v) w w'->(∀ b∈aE v',b∈aE v\/w.heap.size<=b)->K (a.put o.dst v') w'):o.wp Tryz.prog a w K Q :=
 yD bW s x ho hs hx h1.1 h2.1 hB ya (by omega) fun v' w' r1 r2 r3=>by
  have hr:aj w' B v' (l++m):=⟨by rw[Qq];simpa[ints] using r1,fun y hy=>(Qn.1 hy).elim (h1.2.1 y) (h2.2.1 y),by rw[Qq];exact hn⟩;exact hK v' w' hr (by rw[h1.aE];exact r2) (fun b hb=>by rw[h1.aE];exact r3 b (by rw[<-hr.aE];exact hb))
theorem aj.base {w:World} {B B':Nat} {v:Value} {l:List Int} (h:aj w B' v l) (hB:B<=B'):aj w B v l:=by
 obtain⟨⟨h0,h1⟩,h2⟩:=h;refine⟨⟨h0,h1.imp id ?_⟩,h2⟩;rintro ⟨g,cap,cur,e,q,r⟩;exact⟨g,cap,cur,e,by omega,r⟩
section
variable {ops : Array Oper} {Q : Exit -> Act -> World -> Prop} {fr : (Nat -> Value) -> Act} {z : Nat} {fin : List Nat} {w1 : World} {i : Nat} {rest : List (Oper × Info)} {L : List (Value -> World -> Prop)} {o : Oper} {d : Info}
end
theorem aj.some {w:World} {B:Nat} {ao:Option Addr} {n c:Nat} {l:List Int} (h:aj w B (.slice ao n c) l) (hl:0<l.length):∃ g,ao=some ⟨g,0,none⟩/\∀ i,i<l.length->w.cell? ⟨g,i,none⟩=.some (.int .i64 (l.getD i 0)):=by
 rcases h.1.2 with ⟨e,h0⟩ | ⟨g,cap,cur,e,-,hh,-⟩
 ·omega
 obtain⟨TS,c',e1,h1,h2,h3⟩:=h.ints;obtain⟨b,off,rfl,h4⟩:=h3 (by intro q;rw[q] at hl;simp at hl);simp only[Qb.injEq] at e e1;obtain⟨rfl,-,-⟩:=e;obtain⟨e2,-,-⟩:=e1;simp only[Qw.injEq,Addr.mk.injEq] at e2;obtain⟨rfl,rfl,-⟩:=e2;exact⟨_,rfl,fun i hi=>by simpa using h4 i hi⟩
theorem Wo {ops:Array Oper} {rest:List Oper} {o:Oper} {a:Act} {Q:Exit->Act->World->Prop} {w:World} (hg:o.guard=none) (s x:Operand) (ho:o.op=.call { callee:=.builtin .append,args:=#[s,x],argTypes:=#[25,25] })
  {B B':Nat} {v u:Value} {l m:List Int} (hs:a.eval s=v) (hx:a.eval x=u) (h1:aj w B v l) (h2:aj w B' u m) (hB:B<=w.heap.size) (hn:l.length+m.length<4294967296)
  (hK:∀ v' w',aj w' B v' (l++m)->ag (aE v) w w'->(∀ b∈aE v',b∈aE v\/w.heap.size<=b)->wpList Tryz.prog ops Q rest (a.put o.dst v') w'):wpList Tryz.prog ops Q (o :: rest) a w :=
 wpList_plain hg fun _ ta=>Mk s x ho hs hx h1 h2 hB hn fun v' w' r1 r2 r3=>ta _ _ (hK v' w' r1 r2 r3)
theorem aj.set {w:World} {B g n c:Nat} {l:List Int} (h:aj w B (.slice (.some ⟨g,0,none⟩) n c) l) (i:Nat) (x:Int) (hx:aU x):aj (w.setCell ⟨g,i,none⟩ (.int .i64 x)) B (.slice (.some ⟨g,0,none⟩) n c) (l.set i x):=by
 obtain⟨ao,c',e⟩:=h.shape;simp only[Qb.injEq] at e;obtain⟨-,rfl,-⟩:=e;refine⟨?_,fun y hy=>?_,by rw[Qs];exact h.2.2⟩
 ·have:=(h.1.stored i (.int .i64 x)).1
  rw[Qs,_root_.Go.Proofs.YtoiflofhcmjpoaaGreat.ints,List.map_set];exact this
 rcases List.mem_or_eq_of_mem_set hy with q | q
 ·exact h.2.1 y q
 all_goals grind
theorem aj.free {w:World} {B g n c:Nat} {l:List Int} (h:aj w B (.slice (.some ⟨g,0,none⟩) n c) l) (hl:0<l.length) (i:Nat):w.frozen? ⟨g,i,none⟩=false:=by
 rcases h.1.2 with ⟨e,h0⟩ | ⟨g',cap,cur,e,-,hh,-⟩
 ·omega
 simp only[Qb.injEq,Qw.injEq,Addr.mk.injEq] at e;obtain⟨⟨rfl,-⟩,-⟩:=e;simp[Qk,hh]
theorem bj.add {w w':World} {B g cap:Nat} {ov v:Value} {vs:List Value} {ll:List (List Int)} {l:List Int} (h:bj w B ov vs ll) (hv:w.ownsRow B 3 1 v l.length (ints l))
  (iY:∀ k b,k<vs.length->(vs.getD k undef).ownBlock=some b->v.ownBlock≠some b) (hn:w'.ownsRow B 25 1 (.slice (some ⟨g,0,none⟩) (vs.length+1) cap) (vs.length+1) (vs++[v])) (hc:ag ov.ownBlock.toList w w') :
  bj w' B (.slice (some ⟨g,0,none⟩) (vs.length+1) cap) (vs++[v]) (ll++[l]):=by
 have hl:=h.len;have old:∀ k,k<vs.length->(vs++[v]).getD k undef=vs.getD k undef/\(ll++[l]).getD k []=ll.getD k []:=by
  grind
 have new:(vs++[v]).getD vs.length undef=v/\(ll++[l]).getD vs.length []=l:=by
  grind
 have keep:∀ {u:Value} {m:List Int},w.ownsRow B 3 1 u m.length (ints m)->w'.ownsRow B 3 1 u m.length (ints m):=by
  intro u m hu;refine aY hu hc (fun b hb e1=>?_);rcases iH hu h.out (by decide) with q | q
  all_goals grind
 refine⟨by grind,by simp[hl],fun k hk=>?_,fun k j hk hj bh=>?_⟩
 ·by_cases e:k<vs.length
  ·rw[(old k e).1,(old k e).2]
   exact keep (h.rows k e)
  all_goals grind
 by_cases e:k<vs.length
 ·rw[(old k e).1]
  by_cases e2:j<vs.length
  ·rw[(old j e2).1]
   exact h.apart k j e e2 bh
  have:j=vs.length:=by simp at hj;omega
  subst this;rw[new.1];cases hq:(vs.getD k undef).ownBlock with
  | none=>exact Qd rfl
  | some b=>exact Qf (fun q=>iY k b e hq q.symm)
 have:k=vs.length:=by simp at hk;omega
 subst this;have e2:j<vs.length:=by simp at hj;omega
 rw[new.1,(old j e2).1];cases hq:(vs.getD j undef).ownBlock with
 | none =>
  grind
 | some b=>exact Qf (fun q=>iY j b e2 hq q)
theorem jm {w:World} {B B':Nat} {e:TypeId} {size:Nat} {v:Value} {n:Nat} {xs:List Value} (h:w.ownsRow B' e size v n xs) (hB:B<=B'):w.ownsRow B e size v n xs:=by
 obtain⟨h0,h1⟩:=h;refine⟨h0,h1.imp id ?_⟩;rintro ⟨g,cap,cur,e,q,r⟩;exact⟨g,cap,cur,e,by omega,r⟩
theorem kK {ops:Array Oper} {rest:List Oper} {o:Oper} {a:Act} {Q:Exit->Act->World->Prop} {w:World} (hg:o.guard=none) (l c:Operand) (jM:o.op=Op.makeSlice 25 l c) {B n:Nat} (hl:a.eval l=.int .i64 0) (hc:a.eval c=.int .i64 n) (hB:B<=w.heap.size) (hn:n<4294967296)
  (hK:∀ v w',aj w' B v []->ag [] w w'->(∀ b∈aE v,w.heap.size<=b)->wpList Tryz.prog ops Q rest (a.put o.dst v) w'):wpList Tryz.prog ops Q (o :: rest) a w:=by
 obtain⟨i0,hi,y9,jq,nO⟩:=info_parts bW.hi;refine wpList_make_own w hg l c 25 jM B 3 i0 (.int .i64 0) 1 bW.ht hi y9 jq .i64 .i64 (n:Int) n hl hc rfl ?_ (by unfold maxLen;omega) hB (fun w' h1 h2=>hK _ w' ⟨h1,by simp,by simp⟩ ((ag.refl _ _).grown h2 (by simp)) (by simp[aE,Qa]))
 grind
theorem gD {w:World} {B:Nat} {v u:Value} {l m:List Int} (h1:aj w B v l) (h2:al w u m) (hB:B<=w.heap.size) (hn:l.length+m.length<4294967296) (ty:TypeId) :
  ∃ v' w',(Builtin.append_ #[25,25] ty #[v,u]).run Tryz.prog w=.ok v' w'/\aj w' B v' (l++m)/\ag (aE v) w w'/\(∀ b∈aE v',b∈aE v\/w.heap.size<=b):=by
 obtain⟨i0,hi,y9,jq,nO⟩:=info_parts bW.hi;have hb:=bW.hb;obtain⟨ao,cap,rfl,dK,nI,hc⟩:=h2;have fin:∀ (ad:Addr),ao=some ad->(∀ j y,(ints m)[j]?=some y->w.cell? (ad.add j)=some y)->∃ v' w',(Builtin.append_ #[25,25] ty #[v,.slice ao m.length cap]).run Tryz.prog w=.ok v' w'/\aj w' B v' (l++m)/\ag (aE v) w w'/\(∀ b∈aE v',b∈aE v\/w.heap.size<=b):=by
  rintro ad rfl sB;obtain⟨v',w',hr,r2,r3,-,r5⟩:=run_append_own_at (P:=Tryz.prog) w B 25 ty 3 i0 (.int .i64 0) 1 8 bW.ht hi y9 jq nO bW.hz bW.h0 v l.length (ints l) h1.1 ad m.length cap (ints m) (by simp[ints]) sB ya (by unfold maxLen;omega) (Qc (Qo _ (Qg _)) (by omega)) hB;have aJ:aj w' B v' (l++m):=⟨by grind [ints],fun y hy=>(Qn.1 hy).elim (h1.2.1 y) (dK y),by grind⟩;refine⟨v',w',hr,aJ,(ag.refl _ _).grown r3 (fun j hj=>Qd (by rw[h1.aE,hj];simp)),fun b hb=>?_⟩;rw[aJ.aE] at hb;rw[h1.aE]
  all_goals grind
 cases ao with
 | none =>
  have S7:m=[]:=by
   grind
  subst S7;refine⟨v,w,?_,by grind,ag.refl _ _,fun b hb=>Qd hb⟩;rcases h1.1.2 with ⟨rfl,_⟩ | ⟨g,qg,cur,rfl,_,_,sU,_⟩
  ·simp[Builtin.append_,run_underlying bW.ht,sizeOf,typeInfo,hi,Builtin.lenOf,Builtin.firstCells]
  simp[Builtin.append_,run_underlying bW.ht,sizeOf,typeInfo,hi,Builtin.lenOf,Builtin.firstCells,sU,storeCells]
 | some ad =>
  by_cases S7:m=[]
  ·grind [ints]
  obtain⟨b,off,e,ka⟩:=hc S7;cases e;refine fin ⟨b,off,none⟩ rfl fun j y hy=>?_;have iu:(⟨b,off,none⟩:Addr).add j=⟨b,off+j,none⟩:=by unfold Addr.add;split <;> simp_all
  grind [ints]
theorem bT {ops:Array Oper} {rest:List Oper} {o:Oper} {a:Act} {Q:Exit->Act->World->Prop} {w:World} (hg:o.guard=none) (s x:Operand) (ho:o.op=.call { callee:=.builtin .append,args:=#[s,x],argTypes:=#[25,25] })
  {B:Nat} {v u:Value} {l m:List Int} (hs:a.eval s=v) (hx:a.eval x=u) (h1:aj w B v l) (h2:al w u m) (hB:B<=w.heap.size) (hn:l.length+m.length<4294967296)
  (hK:∀ v' w',aj w' B v' (l++m)->ag (aE v) w w'->(∀ b∈aE v',b∈aE v\/w.heap.size<=b)->wpList Tryz.prog ops Q rest (a.put o.dst v') w'):wpList Tryz.prog ops Q (o :: rest) a w:=by
 refine wpList_plain hg fun K ta=>?_;obtain⟨v',w',hr,r1,r2,r3⟩:=gD h1 h2 hB hn o.type;unfold Oper.wp execOp;simp only[ho,resolve,invoke,builtin,Sem.run_bind,Sem.run_pure,Result.andThen_ok,Qi,Qj,Qm,hs,hx,hr];exact ta _ _ (hK v' w' r1 r2 r3)
theorem pU {o:Oper} {a:Act} {K:Act->World->Prop} {Q:Exit->Act->World->Prop} {w:World} (s x:Operand) (ho:o.op=.call { callee:=.builtin .append,args:=#[s,x],argTypes:=#[25,25] })
  {B:Nat} {v u:Value} {l m:List Int} (hs:a.eval s=v) (hx:a.eval x=u) (h1:aj w B v l) (h2:al w u m) (hB:B<=w.heap.size) (hn:l.length+m.length<4294967296)
  (hK:∀ v' w',aj w' B v' (l++m)->ag (aE v) w w'->(∀ b∈aE v',b∈aE v\/w.heap.size<=b)->K (a.put o.dst v') w'):o.wp Tryz.prog a w K Q:=by
 obtain⟨v',w',hr,r1,r2,r3⟩:=gD h1 h2 hB hn o.type;unfold Oper.wp execOp;simp only[ho,resolve,invoke,builtin,Sem.run_bind,Sem.run_pure,Result.andThen_ok,Qi,Qj,Qm,hs,hx,hr];exact hK v' w' r1 r2 r3
theorem bR {w:World} {B:Nat} {v:Value} {l:List Int} (h:aj w B v l):∀ j∈aE v,∃ cs r,w.heap[j]?=some (.cells cs 3 r):=by
 intro j hj;rw[h.aE] at hj;rcases h.1.2 with ⟨rfl,_⟩ | ⟨g,c,cur,rfl,hb,hh,_⟩
 ·simp[Qa] at hj
 simp[Qa] at hj
 grind
namespace Plain
def mu (l:List Int):Nat->Nat
 | 0=>0
 | k+1=>if l.getD k 0<l.getD (mu l k) 0 then k else mu l k
theorem qY {l:List Int} (h:0<l.length):∀ k,k<=l.length->mu l k<l.length
 | 0,_=>h
 | k+1,hk=>by
  unfold mu;split
  ·omega
  exact qY h k (by omega)
theorem EF (l:List Int):∀ k,mu l k<=k
 | 0=>Qg _
 | k+1=>by
  unfold mu;split
  ·omega
  have:=EF l k;omega
def first (l:List Int):List Int:=l.drop (mu l l.length)++l.take (mu l l.length)
end Plain
theorem al.drop {w:World} {b off cap:Nat} {l:List Int} (dK:∀ x∈l,aU x) (hm:l.length<=9223372036854775807) (hc:∀ i,i<l.length->w.cell? ⟨b,off+i,none⟩=some (.int .i64 (l.getD i 0))) (i:Nat):al w (.slice (some ⟨b,off+i,none⟩) (l.length - i) cap) (l.drop i):=by
 refine⟨_,cap,by rw[Qe],fun x hx=>dK x (List.mem_of_mem_drop hx),by rw[Qe];omega,fun _=>⟨b,off+i,rfl,fun j hj=>?_⟩⟩;rw[Qe] at hj;rw[Nat.add_assoc,hc (i+j) (by omega)];simp[Ql]
theorem al.take {w:World} {b off cap:Nat} {l:List Int} (dK:∀ x∈l,aU x) (hm:l.length<=9223372036854775807) (hc:∀ i,i<l.length->w.cell? ⟨b,off+i,none⟩=some (.int .i64 (l.getD i 0))) {i:Nat} (hi:i<=l.length):al w (.slice (some ⟨b,off,none⟩) i cap) (l.take i):=by
 have hl:(l.take i).length=i:=by rw[Qr];omega
 refine⟨_,cap,by rw[hl],fun x hx=>dK x (List.mem_of_mem_take hx),by rw[hl];omega,fun _=>⟨b,off,rfl,fun j hj=>?_⟩⟩;rw[hl] at hj;rw[hc j (by omega)];simp[Ql,hj]
theorem al.none_ (w:World) (ao:Option Addr) (c:Nat):al w (.slice ao 0 c) []:=⟨ao,c,rfl,by simp,by simp,by simp⟩
set_option maxRecDepth 100000 in
theorem Ev (v:Value) (l:List Int) (i:Nat) (w:World) (hi:i<=l.length) (hn:l.length<2147483648) (iD:gV v) (h:al w v l) :
  Calls Tryz.prog 147 #[v,.int .i64 i] w fun e w'=>∃ v',e=.returned v'/\aj w' w.heap.size v' (l.drop i++l.take i)/\ag [] w w':=by
 obtain⟨ao,cap,rfl,dK,hm,aK⟩:=h;obtain⟨TS,n',eP,e,hlc,oP⟩:=iD;simp only[Qb.injEq] at e;obtain⟨rfl,rfl,rfl⟩:=e;have key:∀ (u1 u2:Value) (l1 l2:List Int),Hid (∀ wx,ag [] w wx->al wx u1 l1)->Hid (∀ wx,ag [] w wx->al wx u2 l2)->Hid (l1.length+l2.length<=l.length) ->
   ∀ (v1:Value) (w1:World),aj w1 w.heap.size v1 []->ag [] w w1->Hid (∀ b∈aE v1,w.heap.size<=b)->True:=fun _ _ _ _ _ _ _ _ _ _ _ _=>trivial
 clear key;have fin:∀ (b off:Nat),ao=some ⟨b,off,none⟩->(∀ i,i<l.length->w.cell? ⟨b,off+i,none⟩=some (.int .i64 (l.getD i 0)))->0<l.length ->
   Calls Tryz.prog 147 #[.slice ao l.length cap,.int .i64 i] w fun e w'=>∃ v',e=.returned v'/\aj w' w.heap.size v' (l.drop i++l.take i)/\ag [] w w':=by
  rintro b off rfl hc h0;have HT:=lh (fun wx (hx:ag [] w wx)=>(al.take (cap:=i) dK hm hc hi).fresh hx);have fM:True:=trivial;by_cases Wr:i=cap
  ·obtain rfl:i=l.length:=by omega
   obtain rfl:cap=l.length:=Wr.symm;have HD:=lh (fun wx=>al.none_ wx (some ⟨b,off,none⟩) 0);have vy:=lh (show l.drop l.length++l.take l.length=[]++l.take l.length by rw[List.drop_length]);rw[vy.out];have DD:=lh (show (l.take l.length).length=l.length by simp);clear dK aK hc Wr
   go_enter Tryz.func147,Tryz.ntmps147
   go_wp2_with (first
    | (at_make;refine kK rfl _ _ rfl (B:=w.heap.size) (n:=l.length) rfl rfl (Qg _) (by omega) ?_;intro v1 w1 r1 cY f1;have R1:=lh r1;have C1:=lh cY;have F1:=lh f1;clear r1 cY f1)
    | (at_builtin;have _t:=fM;refine bT rfl _ _ rfl (B:=w.heap.size) rfl rfl R1.out (HD.out _) C1.out.size (by simp) ?_;intro v2 w2 r2 bA f2;clear fM;have R2:=lh r2;have C2:=lh (C1.out.trans bA (fun j hj=>Qf (F1.out j hj)));have F2:=lh (fun j hj=>(f2 j hj).elim (F1.out j) (Qc C1.out.size));clear r2 bA f2)
    | (at_builtin;refine bT rfl _ _ rfl (B:=w.heap.size) rfl rfl R2.out (HT.out _ C2.out) C2.out.size (by rw[DD.out];simp;omega) ?_;intro v3 w3 r3 cT f3;have R3:=lh r3;have C3:=lh (C2.out.trans cT (fun j hj=>Qf (F2.out j hj)));clear r3 cT f3))
   go_ret;exact⟨_,rfl,R3.out,C3.out⟩
  have HD:=lh (fun wx (hx:ag [] w wx)=>(al.drop (cap:=cap - i) dK hm hc i).fresh hx);have rh:=lh (show ([]:List Int).length+(l.drop i).length<4294967296 by rw[Qe];simp;omega);have DD:=lh (show ([]++l.drop i).length+(l.take i).length<4294967296 by rw[Qt,Qe,Qr];omega);have jg:=lh (Qt (l.drop i));clear dK aK hc
  go_enter Tryz.func147,Tryz.ntmps147
  go_wp2_with (first
   | (at_make;refine kK rfl _ _ rfl (B:=w.heap.size) (n:=l.length) rfl rfl (Qg _) (by omega) ?_;intro v1 w1 r1 cY f1;have R1:=lh r1;have C1:=lh cY;have F1:=lh f1;clear r1 cY f1)
   | (at_builtin;have _t:=fM;refine bT rfl _ _ rfl (B:=w.heap.size) rfl rfl R1.out (HD.out _ C1.out) C1.out.size rh.out ?_;intro v2 w2 r2 bA f2;clear fM;have R2:=lh r2;have C2:=lh (C1.out.trans bA (fun j hj=>Qf (F1.out j hj)));have F2:=lh (fun j hj=>(f2 j hj).elim (F1.out j) (Qc C1.out.size));clear r2 bA f2)
   | (at_builtin;refine bT rfl _ _ rfl (B:=w.heap.size) rfl rfl R2.out (HT.out _ C2.out) C2.out.size DD.out ?_;intro v3 w3 r3 cT f3;have R3:=lh r3;have C3:=lh (C2.out.trans cT (fun j hj=>Qf (F2.out j hj)));clear r3 cT f3))
  go_ret;exact⟨_,rfl,by have:=R3.out;rwa[jg.out] at this,C3.out⟩
 cases l with
 | cons x r =>
  obtain⟨b,off,e,hc⟩:=aK (by simp);exact fin b off e hc (by simp)
 | nil =>
  obtain rfl:i=0:=by simpa using hi
  simp only[Qu];clear fin dK aK hm hi hn hlc;have fM:True:=trivial;by_cases Jb:cap=0
  ·subst Jb
   go_enter Tryz.func147,Tryz.ntmps147
   go_wp2_with (first
    | (at_make;refine kK rfl _ _ rfl (B:=w.heap.size) (n:=0) rfl rfl (Qg _) (by omega) ?_;intro v1 w1 r1 cY f1;have R1:=lh r1;have C1:=lh cY;have F1:=lh f1;clear r1 cY f1)
    | (at_builtin;have _t:=fM;refine bT rfl _ _ rfl (B:=w.heap.size) rfl rfl R1.out (al.none_ _ _ _) C1.out.size (by simp) ?_;intro v2 w2 r2 bA f2;clear fM;have R2:=lh r2;have C2:=lh (C1.out.trans bA (fun j hj=>Qf (F1.out j hj)));have F2:=lh (fun j hj=>(f2 j hj).elim (F1.out j) (Qc C1.out.size));clear r2 bA f2)
    | (at_builtin;refine bT rfl _ _ rfl (B:=w.heap.size) rfl rfl R2.out (al.none_ _ _ _) C2.out.size (by simp) ?_;intro v3 w3 r3 cT f3;have R3:=lh r3;have C3:=lh (C2.out.trans cT (fun j hj=>Qf (F2.out j hj)));clear r3 cT f3))
   go_ret;exact⟨_,rfl,by have:=R3.out;simpa using this,C3.out⟩
  have apD:¬ (0=cap):=fun e=>Jb e.symm
  go_enter Tryz.func147,Tryz.ntmps147
  go_wp2_with (first
   | (at_make;refine kK rfl _ _ rfl (B:=w.heap.size) (n:=0) rfl rfl (Qg _) (by omega) ?_;intro v1 w1 r1 cY f1;have R1:=lh r1;have C1:=lh cY;have F1:=lh f1;clear r1 cY f1)
   | (at_builtin;have _t:=fM;refine bT rfl _ _ rfl (B:=w.heap.size) rfl rfl R1.out (al.none_ _ _ _) C1.out.size (by simp) ?_;intro v2 w2 r2 bA f2;clear fM;have R2:=lh r2;have C2:=lh (C1.out.trans bA (fun j hj=>Qf (F1.out j hj)));have F2:=lh (fun j hj=>(f2 j hj).elim (F1.out j) (Qc C1.out.size));clear r2 bA f2)
   | (at_builtin;refine bT rfl _ _ rfl (B:=w.heap.size) rfl rfl R2.out (al.none_ _ _ _) C2.out.size (by simp) ?_;intro v3 w3 r3 cT f3;have R3:=lh r3;have C3:=lh (C2.out.trans cT (fun j hj=>Qf (F2.out j hj)));clear r3 cT f3))
  go_ret;exact⟨_,rfl,by have:=R3.out;simpa using this,C3.out⟩
theorem JI (v:Value) (l:List Int) (w:World) (hn:l.length<2147483648) (iD:gV v) (h:al w v l) :
  Calls Tryz.prog 100 #[v] w fun e w'=>∃ v',e=.returned v'/\aj w' w.heap.size v' (Plain.first l)/\ag [] w w':=by
 have H:=lh h;have ajI:=lh iD;obtain⟨ao,cap,rfl,dK,hm,aK⟩:=h;have qZ:=lh aK;clear dK aK iD
 go_enter Tryz.func100,Tryz.ntmps100
 go_wp2
 go_loopw [3,8] (fun m c wr=>∃ k:Nat,k<=l.length/\c=.int .i64 k/\m=.int .i64 (Plain.mu l k:Nat)/\ag [] w wr) (fun _ c _=>l.length - (intOf c).toNat)
 case atStart=>exact⟨0,Qx _,rfl,rfl,ag.refl _ _⟩
 case round =>
  obtain⟨k,hk,rfl,rfl,hc⟩:=hrel;have HC:=lh hc;by_cases aL:k<l.length
  ·obtain⟨b,off,rfl,wj⟩:=qZ.out (by intro e;rw[e] at aL;simp at aL)
   have nI:=Plain.qY (l:=l) (by omega) k hk;have c0:=hc.c (wj k aL);have c1:=hc.c (wj _ nI);have HL:=lh (show Plain.mu l (k+1)=if l.getD k 0<l.getD (Plain.mu l k) 0 then k else Plain.mu l k from rfl);clear wj hc;generalize Plain.mu l k=m at *;generalize l.getD k 0=x at *;generalize l.getD m 0=y at *;by_cases qI:x<y
   ·go_wp2
    go_roundw
    case rel=>exact⟨k+1,by omega,by go_num,by rw[HL.out,if_pos qI],HC.out⟩
    case measure=>simp[intOf];omega
   go_wp2
   go_roundw
   case rel=>exact⟨k+1,by omega,by go_num,by rw[HL.out,if_neg qI],HC.out⟩
   case measure=>simp[intOf];omega
  have e:k=l.length:=by omega
  subst e;have hle:=Plain.EF l l.length;clear hc
  go_wp2_with fail
  refine (Ev _ l (Plain.mu l l.length) _ hle hn ajI.out (H.out.fresh HC.out)).mono ?_;rintro e w2 ⟨v',rfl,r2,bA⟩;have R2:=lh r2;have C2:=lh bA;clear r2 bA;go_wp2;go_ret;exact⟨_,rfl,R2.out.base HC.out.size,HC.out.t C2.out⟩
theorem jr (g:Plain.Gr) (e:Nat):g.tail ((2*e:Nat):Int)=(g.ends e).1/\g.head ((2*e:Nat):Int)=(g.ends e).2:=by
 grind [Plain.Gr.tail,Plain.Gr.head,Plain.Gr.at]
theorem kM (g:Plain.Gr) (e:Nat):g.tail ((2*e+1:Nat):Int)=(g.ends e).2/\g.head ((2*e+1:Nat):Int)=(g.ends e).1:=by
 grind [Plain.Gr.tail,Plain.Gr.head,Plain.Gr.at]
theorem pB (e:Nat):Int.tmod ((2*e:Nat):Int) 2=0/\Int.tdiv ((2*e:Nat):Int) 2=(e:Int):=by
 grind
theorem th (e:Nat):Int.tmod ((2*e+1:Nat):Int) 2=1/\Int.tdiv ((2*e+1:Nat):Int) 2=(e:Int):=by
 grind
theorem lX (v:Value) (g:Plain.Gr) (d:Nat) (w:World) (hd:d / 2<g.e.length) (hm:g.e.length<4294967296) (h:dJ w v g) :
  Calls Tryz.prog 175 #[v,.int .i64 d] w fun e w'=>e=.returned (.int .i64 (g.head d))/\ag [] w w':=by
 obtain⟨eo,cap,rfl,-,-,-,aK⟩:=h;obtain⟨b,off,rfl,gO,cY⟩:=aK (d / 2) hd;have b8:=lh ((ag.refl [] w).alloc (.cells #[.int .i64 g.n,.slice (some ⟨b,off,none⟩) g.e.length cap] 24));obtain⟨e,he⟩:∃ e,d / 2=e:=⟨_,rfl⟩;rw[he] at hd gO cY;have c0:=fun o=>bP gO o;have c1:=fun o=>bP cY o;clear aK gO cY;rcases (show d=2*e\/d=2*e+1 by omega) with rfl | rfl
 ·obtain⟨q1,q2⟩:=pB e
  have HE:=lh (jr g e).2;rw[HE.out];clear he;generalize ((2*e:Nat):Int)=dd at *;generalize (g.ends e).1=x at *;generalize (g.ends e).2=y at *
  go_enter Tryz.func175,Tryz.ntmps175
  go_wp2;go_ret;exact⟨rfl,b8.out⟩
 obtain⟨q1,q2⟩:=th e;have HE:=lh (kM g e).2;rw[HE.out];clear he;generalize ((2*e+1:Nat):Int)=dd at *;generalize (g.ends e).1=x at *;generalize (g.ends e).2=y at *
 go_enter Tryz.func175,Tryz.ntmps175
 go_wp2;go_ret;exact⟨rfl,b8.out⟩
theorem E6 (v:Value) (g:Plain.Gr) (d:Nat) (w:World) (hd:d / 2<g.e.length) (hm:g.e.length<4294967296) (h:dJ w v g) :
  Calls Tryz.prog 118 #[v,.int .i64 d] w fun e w'=>e=.returned (.int .i64 (g.tail d))/\ag [] w w':=by
 obtain⟨eo,cap,rfl,-,-,-,aK⟩:=h;obtain⟨b,off,rfl,gO,cY⟩:=aK (d / 2) hd;have b8:=lh ((ag.refl [] w).alloc (.cells #[.int .i64 g.n,.slice (some ⟨b,off,none⟩) g.e.length cap] 24));obtain⟨e,he⟩:∃ e,d / 2=e:=⟨_,rfl⟩;rw[he] at hd gO cY;have c0:=fun o=>bP gO o;have c1:=fun o=>bP cY o;clear aK gO cY;rcases (show d=2*e\/d=2*e+1 by omega) with rfl | rfl
 ·obtain⟨q1,q2⟩:=pB e
  have HE:=lh (jr g e).1;rw[HE.out];clear he;generalize ((2*e:Nat):Int)=dd at *;generalize (g.ends e).1=x at *;generalize (g.ends e).2=y at *
  go_enter Tryz.func118,Tryz.ntmps118
  go_wp2;go_ret;exact⟨rfl,b8.out⟩
 obtain⟨q1,q2⟩:=th e;have HE:=lh (kM g e).1;rw[HE.out];clear he;generalize ((2*e+1:Nat):Int)=dd at *;generalize (g.ends e).1=x at *;generalize (g.ends e).2=y at *
 go_enter Tryz.func118,Tryz.ntmps118
 go_wp2;go_ret;exact⟨rfl,b8.out⟩
end Go.Proofs.YtoiflofhcmjpoaaGreat
namespace Go.Proofs.YtoiflofhcmjpoaaGreat
open Go.RowKit Go.Maps Go.ChangeShapes
def SMap (w:World) (b n:Nat) (f:Int->List Int):Prop :=
 ∃ D:DataW Unit,w.ownsGroups Tryz.prog 3 (b+1) 3 .i64 b n D /\
  ∀ x,aU x->(f x=[]/\D.atKey (.int .i64 x) .nil=.nil)\/D.atKey (.int .i64 x) .nil=.slice (lits .i64 (f x)) []
theorem Ad (w:World):(zeroValue 25).run Tryz.prog w=.ok (.slice none 0 0) w:=by kernel_rfl
theorem SMap.made (w:World):SMap (w.alloc (.map #[] 0)) w.heap.size 0 (fun _=>[]) :=
 ⟨.map [],World.ownsGroups_made _ _ _ _ _,fun _ _=>Qd ⟨rfl,rfl⟩⟩
theorem SMap.lt {w:World} {b n:Nat} {f:Int->List Int} (h:SMap w b n f):b<w.heap.size:=by
 obtain⟨D,⟨es,clock,hb,-⟩,-⟩:=h
 grind
theorem vh {a c:List Int} (h:(lits .i64 a:List (DataW Unit))=lits .i64 c):a=c:=by
 induction a generalizing c with
 | nil=>cases c with
  | nil=>rfl
  | cons _ _=>simp[lits] at h
 | cons x a ih=>cases c with
  | nil=>simp[lits] at h
  | cons y c =>
   simp only[lits,Qj,List.cons.injEq] at h;obtain⟨h1,h2⟩:=h;have:x=y:=by simpa using h1
   rw[this,ih h2]
theorem SMap.list {w:World} {f:Int->List Int} {D:DataW Unit} {x:Int} {v:Value} {zs:List Int} {base:Nat} (h:(f x=[]/\D.atKey (.int .i64 x) .nil=.nil)\/D.atKey (.int .i64 x) .nil=.slice (lits .i64 (f x)) []) (dU:D.atKey (.int .i64 x) .nil=rowDatum .i64 v zs) (ho:w.ownsInts base 3 .i64 v zs):zs=f x:=by
 rcases ho.datum (H:=Unit) with ⟨e,rfl⟩ | e
 ·rw[e] at dU
  rcases h with ⟨h1,_⟩ | h2
  ·exact h1.symm
  rw[dU] at h2;cases h2
 rw[e] at dU;rcases h with ⟨_,h2⟩ | h2
 ·rw[dU] at h2;cases h2
 rw[dU] at h2;simp only[DataW.slice.injEq,and_true] at h2;exact vh h2
def NS (w:World) (b n:Nat) (f:Int->List Int) (k:Int) (v:Value):Prop :=
 ∀ (w1:World) (v':Value) (x:Int),aj w1 (b+1) v' (f k++[x])->ag (aE v) w w1->(∀ j∈aE v',j∈aE v\/w.heap.size<=j) ->
  ∃ w2,(Instr.mapUpdate 97 (.map (some b)) (.int .i64 k) v').run Tryz.prog w1=.ok () w2/\SMap w2 b (n+1) (fun y=>if y=k then f k++[x] else f y)/\ag [b] w1 w2
theorem pG {w:World} {B:Nat} {v:Value} {l:List Int} (h:w.ownsInts B 3 .i64 v l) (hn:l.length<4294967296):aj w B v l:=⟨h.1,h.2,hn⟩
theorem Bm {w:World} {B:Nat} {v:Value} {l:List Int} (h:aj w B v l):w.ownsInts B 3 .i64 v l:=⟨h.1,h.2.1⟩
theorem SMap.look {w:World} {b n:Nat} {f:Int->List Int} (h:SMap w b n f) (hn:n<4294967296) {k:Int} (hk:aU k) :
  ∃ v,(Instr.lookup 97 (.map (some b)) (.int .i64 k) false).run Tryz.prog w=.ok v w/\aj w (b+1) v (f k)/\(f k).length<=n/\NS w b n f k v:=by
 obtain⟨D,ho,hD⟩:=h;have js:=keyOf_int_mk Tryz.underlying3 hk;obtain⟨v,zs,hr,dU,V2,Zs,abL⟩:=ho.at bI Tryz.underlying97 (Ad w) (by unfold maxLen;omega) js;obtain rfl:=SMap.list (hD k hk) dU V2;refine⟨v,hr,pG V2 (by omega),Zs,fun w1 v' x aJ hc hf=>?_⟩;have hfo:aE v=v.ownBlock.toList:=(pG V2 (by omega)).aE;have ap7:aE v'=v'.ownBlock.toList:=aJ.aE;have hgr:w.grownBy w1 v.ownBlock:=hc.grownBy (fun j hj=>by rw[hfo] at hj;exact (show v.ownBlock=some j by grind).symm);obtain⟨g,c,e⟩:=cD aJ.1 (by simp);have ahV:v'.ownBlock=v.ownBlock\/∃ g,v'.ownBlock=some g/\w.heap.size<=g:=by
  have hb:v'.ownBlock=some g:=by rw[e];rfl
  rcases hf g (by grind) with q | q
  all_goals grind
 obtain⟨w2,fh,h2,h3⟩:=abL w1 v' (f k++[x]) hgr (Bm aJ) (by simp;omega) ahV;refine⟨w2,fh,⟨_,h2,fun y hy=>?_⟩,(ag.refl _ _).grown h3 (fun j hj=>by cases hj;exact Qd (by simp))⟩;have ahg:(rowDatum .i64 v' (f k++[x]):DataW Unit)=.slice (lits .i64 (f k++[x])) []:=(Bm aJ).datum_pos (by simp);obtain⟨es,clock,sQ,F,hs,hDe,-⟩:=ho;by_cases e1:y=k
 ·subst e1
  right;rw[atKey_put_same ⟨_,hDe⟩ (bI.key js),ahg];simp
 rw[atKey_put_other (kJ e1)]
 grind
section
variable {ops : Array Oper} {rest : List Oper} {o : Oper} {a : Act} {Q : Exit -> Act -> World -> Prop} {w : World}
theorem vu (hg:o.guard=none) (m x:Operand) (jM:o.op=Op.lookup 97 m x false) {b n:Nat} {f:Int->List Int} (h:SMap w b n f) (hn:n<4294967296) (hm:a.eval m=.map (some b)) {k:Int} (hk:aU k) (hx:a.eval x=.int .i64 k)
  (hK:∀ v,aj w (b+1) v (f k)->(f k).length<=n->NS w b n f k v->wpList Tryz.prog ops Q rest (a.put o.dst v) w):wpList Tryz.prog ops Q (o :: rest) a w:=by
 refine wpList_plain hg fun K' ta=>?_;obtain⟨v,fS,r1,r2,r3⟩:=h.look hn hk;unfold Oper.wp;simp[execOp,jM,hm,hx,fS,Result.andThen];exact ta _ _ (hK v r1 r2 r3)
theorem vX {w0:World} (hg:o.guard=none) (m x u:Operand) (jM:o.op=Op.mapUpdate 97 m x u) {b n:Nat} {f:Int->List Int} {k z:Int} {v v':Value} (hb:NS w0 b n f k v) (hm:a.eval m=.map (some b)) (hx:a.eval x=.int .i64 k) (hu:a.eval u=v')
  (aJ:aj w (b+1) v' (f k++[z])) (hc:ag (aE v) w0 w) (hf:∀ j∈aE v',j∈aE v\/w0.heap.size<=j)
  (hK:∀ w2,SMap w2 b (n+1) (fun y=>if y=k then f k++[z] else f y)->ag [b] w w2->wpList Tryz.prog ops Q rest (a.put o.dst undef) w2):wpList Tryz.prog ops Q (o :: rest) a w:=by
 refine wpList_plain hg fun K' ta=>?_;obtain⟨w2,fS,r1,r2⟩:=hb w v' z aJ hc hf;unfold Oper.wp;simp[execOp,jM,hm,hx,hu,fS,Result.andThen];exact ta _ _ (hK w2 r1 r2)
end
end Go.Proofs.YtoiflofhcmjpoaaGreat
-- READS ONLY
namespace Go.Proofs.YtoiflofhcmjpoaaGreat
open Go.RowKit Go.Maps
namespace Plain
def outs (g:Gr) (p:Pt) (k:Nat) (v:Int):List Int:=(Pt.ah ⟨[],p.e.take k⟩).filter fun d=>decide (g.tail d=v)
theorem xL (g:Gr) (p:Pt):outs g p 0=fun _=>[]:=by grind [outs,Pt.ah]
theorem JY {g:Gr} {p:Pt} {k e:Nat} (hk:k<p.e.length) (he:p.e.getD k 0=(e:Int)) :
  outs g p (k+1)=fun v=>outs g p k v++((if (g.ends e).1=v then [2*(e:Int)] else [])++(if (g.ends e).2=v then [2*(e:Int)+1] else [])):=by
 funext v
 have e1:p.e.take (k+1)=p.e.take k++[(e:Int)]:=by
  rw[List.take_succ_eq_append_getElem hk,<-he]
  grind
 grind [outs,Pt.ah,Gr.ends,jr,kM]
theorem CW (g:Gr) (p:Pt) (v:Int):outs g p p.e.length v=p.ah.filter fun d=>decide (g.tail d=v):=by
 unfold outs;rw[List.take_length];rfl
end Plain
theorem Cm (g:Plain.Gr) (p:Plain.Pt) (k:Nat) (v:Int):(Plain.outs g p k v).length<=2*k:=by
 grind [Plain.outs,Plain.bL]
theorem Ss (f:Int->List Int) (a z s t:Int):(fun y=>if y=z then (if z=a then f a++[s] else f z)++[t] else (if y=a then f a++[s] else f y))=fun v=>f v++((if a=v then [s] else [])++(if z=v then [t] else [])):=by
 all_goals grind
theorem fT (w:World) {x:Int} (hx:aU x):al (w.alloc (.cells #[.int .i64 x] 3)) (.slice (some ⟨w.heap.size,0,none⟩) 1 1) [x]:=by
 refine⟨_,1,rfl,by grind,by simp,fun _=>⟨w.heap.size,0,rfl,fun i hi=>?_⟩⟩;have:i=0:=by simpa using hi
 subst this;rw[cell_of_row _ _ _ _ _ _ (heap_alloc_new w _)];rfl
set_option maxHeartbeats 2000000 in
theorem rU (vg vp:Value) (g:Plain.Gr) (p:Plain.Pt) (w:World) (qM:p.e.length<=1000000) (hr:p.err g=0) (hg:dJ w vg g) (hp:fL w vp p) :
  Calls Tryz.prog 168 #[vg,vp] w fun e w'=>∃ b,e=.returned (.map (some b))/\SMap w' b (2*p.e.length) (fun v=>p.ah.filter fun d=>decide (g.tail d=v))/\ag [] w w'/\w.heap.size<=b:=by
 obtain⟨yk,Kd,AE,-⟩:=Plain.Pt.aA hr;obtain⟨N5,xC,lR,fR⟩:=Plain.Gr.aA yk;have s9:=lh AE;obtain⟨eo,cap,rfl,hn,hm,dK,aK⟩:=hg;obtain⟨v1,v2,rfl,hv,he⟩:=hp;obtain⟨ao,ac,rfl,-,-,-⟩:=hv;obtain⟨bo,bc,rfl,wE,sQ,ft⟩:=he;have qZ:=lh aK;have uE:=lh ft;have fZ:=lh dK;have mY:=@run_makeMap Tryz.prog;obtain⟨fz,ff,cY⟩:=eZ w #[.int .i64 g.n,.slice eo g.e.length cap] #[.slice ao p.v.length ac,.slice bo p.e.length bc] 24 27;have x1:=(cell_of_row _ _ 1 _ _ _ fz).trans (show _=some (Qb eo g.e.length cap) from rfl);have y1:=(cell_of_row _ _ 1 _ _ _ ff).trans (show _=some (Qb bo p.e.length bc) from rfl);have X1:=lh x1;have Y1:=lh y1;have b8:=lh cY;clear aK ft dK fR AE Kd yk hr wE hn fz ff cY x1;have HM:=lh (SMap.made ((w.alloc (.cells #[.int .i64 g.n,.slice eo g.e.length cap] 24)).alloc (.cells #[.slice ao p.v.length ac,.slice bo p.e.length bc] 27)));have y1n:=fun o=>bP y1 o
 go_enter Tryz.func168,Tryz.ntmps168
 go_wp2;clear mY y1 y1n;have dj:((w.alloc (.cells #[.int .i64 g.n,.slice eo g.e.length cap] 24)).alloc (.cells #[.slice ao p.v.length ac,.slice bo p.e.length bc] 27)).heap.size=w.heap.size+1+1:=by simp
 rw[dj] at HM;generalize qK:((w.alloc (.cells #[.int .i64 g.n,.slice eo g.e.length cap] 24)).alloc (.cells #[.slice ao p.v.length ac,.slice bo p.e.length bc] 27))=w1 at *;clear qK;obtain⟨mb,AQ⟩:∃ mb,w.heap.size+1+1=mb:=⟨_,rfl⟩;rw[AQ] at HM dj ⊢;have Pu:w.heap.size<=mb:=by omega
 generalize w.heap.size+1=pb at *;generalize KC:w.heap.size=gb at *
 go_loopw [14] (fun c wr=>∃ k:Nat,k<=p.e.length/\c=.int .i64 k/\ag [] w1 wr/\SMap wr mb (2*k) (Plain.outs g p k)) (fun c _=>p.e.length - (intOf c).toNat)
 case atStart=>exact⟨0,Qx _,rfl,(ag.refl [] w1).alloc _,by rw[Plain.xL];exact HM.out⟩
 case round =>
  obtain⟨k,hk,rfl,hc,dK⟩:=hrel;have HC:=lh hc;have HS:=lh dK;by_cases aL:k<p.e.length
  ·obtain⟨bb,sX,rfl,qQ⟩:=uE.out (by grind)
   have ce:=hc.c (b8.out.c (qQ k aL));have AE:=Plain.bX s9.out aL;obtain⟨ei,tx⟩:∃ ei:Nat,p.e.getD k 0=(ei:Int):=⟨(p.e.getD k 0).toNat,by omega⟩;have HO:=lh (Plain.JY (g:=g) aL tx);rw[tx] at ce AE;have vZ:ei<g.e.length:=by omega
   have acJ:(ei:Int)<=1024:=by omega
   obtain⟨eb,dO,rfl,gO,cY⟩:=qZ.out ei vZ;obtain⟨z1,z2⟩:=fZ.out ei vZ;have C0:=lh (b8.out.c gO);have C1:=lh (b8.out.c cY);clear qQ hc AE tx gO cY dK;generalize (g.ends ei).1=x at *;generalize (g.ends ei).2=y at *;go_wp2;clear ce;have aW:(fun w':World=>w'.cell? ⟨gb,1,none⟩=some (.slice (some ⟨eb,dO,none⟩) g.e.length cap)/\w'.cell? ⟨eb,dO+ei*2,none⟩=some (.int .i64 x)/\w'.cell? ⟨eb,dO+ei*2+1,none⟩=some (.int .i64 y)) wr.drew:=⟨HC.out.drew.c X1.out,HC.out.drew.c C0.out,HC.out.drew.c C1.out⟩;refine ar (fun w':World=>w'.cell? ⟨gb,1,none⟩=some (.slice (some ⟨eb,dO,none⟩) g.e.length cap)/\w'.cell? ⟨eb,dO+ei*2,none⟩=some (.int .i64 x)/\w'.cell? ⟨eb,dO+ei*2+1,none⟩=some (.int .i64 y)) [0,1,2,3,4,5,6,7,8,9,10,11,12,13] (Way.line [0,1,2,3,4,5,6,7,8,9,10,11,12,13] .done) (by kernel_rfl) (by kernel_rfl) ?_;simp only[Way.line]
   repeat (refine ai (v:=?_) rfl (by rfl) (by rfl) (fun _ _ _ h=>h) aW (fun w' aI=>?_) ?_;rotate_left;(focus ((try dsimp only at aI);go_simp;try with_reducible rfl));simp only[Act.put,Z1,Z2,Z3,Z4,Z5,Z6])
   refine aC ?_;clear aW;have sT:=lh (show SMap wr.drew mb (2*k) (Plain.outs g p k) from HS.out);have cB:=lh HC.out.drew;have I1:aU (2*(ei:Int)):=by grind [aU.mk]
   have I2:aU (2*(ei:Int)+1):=by grind [aU.mk]
   generalize wr.drew=wd at *;have G9:=lh (fun v=>Cm g p k v);generalize Plain.outs g p k=f0 at *;have pj:=lh dj;have fM:True:=trivial;have Zl:True:=trivial;have Y':True:=trivial;clear HS HC dj
   go_wp2_with (first
    | (at_lookup;have _t:=fM;refine vu rfl _ _ rfl sT.out (by omega) rfl z1 rfl ?_;intro v1 r1 l1 b1;clear fM;have R1:=lh r1;have B1:=lh b1;clear r1 l1 b1)
    | (at_builtin;have _t:=Zl;refine bT rfl _ _ rfl (B:=mb+1) rfl rfl (R1.out.aD ((ag.refl [] _).alloc _) (by simp)) (fT _ I1) (by have:=sT.out.lt;simp;omega) (by have:=G9.out x;simp;omega) ?_;intro u1 w2 q1 c1 f1;clear Zl;have Q1:=lh q1;have D1:=lh (((ag.refl (aE v1) wd).alloc (.cells #[.int .i64 (2*(ei:Int))] 3)).trans c1 (fun j hj=>Qd hj));have F1:=lh (fun j hj=>(f1 j hj).imp id (fun h=>Qc ((ag.refl [] wd).alloc (.cells #[.int .i64 (2*(ei:Int))] 3)).size h));clear q1 c1 f1)
    | (at_mapUpdate;have _t:=Y';refine vX rfl _ _ _ rfl B1.out rfl rfl rfl Q1.out D1.out F1.out ?_;intro w3 s3 d3;clear Y';have S3:=lh s3;have D3:=lh d3;clear s3 d3)
    | (at_lookup;refine vu rfl _ _ rfl S3.out (by omega) rfl z2 rfl ?_;intro v4 r4 l4 b4;have R4:=lh r4;have L4:=lh l4;have B4:=lh b4;clear r4 l4 b4)
    | (at_builtin;refine bT rfl _ _ rfl (B:=mb+1) rfl rfl (R4.out.aD ((ag.refl [] _).alloc _) (by simp)) (fT _ I2) (by have:=S3.out.lt;simp;omega) (by have:=L4.out;simp;omega) ?_;intro u5 w5 q5 c5 f5;have Q5:=lh q5;have D5:=lh (((ag.refl (aE v4) w3).alloc (.cells #[.int .i64 (2*(ei:Int)+1)] 3)).trans c5 (fun j hj=>Qd hj));have F5:=lh (fun j hj=>(f5 j hj).imp id (fun h=>Qc ((ag.refl [] w3).alloc (.cells #[.int .i64 (2*(ei:Int)+1)] 3)).size h));clear q5 c5 f5)
    | (at_mapUpdate;refine vX rfl _ _ _ rfl B4.out rfl rfl rfl Q5.out D5.out F5.out ?_;intro w6 s6 d6;have S6:=lh s6;have D6:=lh d6;clear s6 d6))
   have IS:∀ j∈aE v1,w1.heap.size<=j:=fun j hj=>by have:=(R1.out.low j (by rw[<-R1.out.aE];exact hj)).1;have:=pj.out;omega
   have Si:∀ j∈aE v4,w1.heap.size<=j:=fun j hj=>by have:=(R4.out.low j (by rw[<-R4.out.aE];exact hj)).1;have:=pj.out;omega
   have Wz:∀ j∈[mb],j∈([]:List Nat)\/w1.heap.size<=j:=fun j hj=>Qf (by have:=pj.out;simp at hj;omega);have ky:=lh ((((cB.out.trans D1.out (fun j hj=>Qf (IS j hj))).trans D3.out Wz).trans D5.out (fun j hj=>Qf (Si j hj))).trans D6.out Wz);have HS6:=lh (show SMap w6 mb (2*(k+1)) (Plain.outs g p (k+1)) by rw[HO.out,<-Ss f0 x y];exact S6.out);clear IS Si Wz;go_wp2
   go_roundw
   case rel=>exact⟨k+1,by omega,by go_num,ky.out,HS6.out⟩
   case measure=>simp[intOf];omega
  have e:k=p.e.length:=by omega
  subst e;have HF:=lh (show SMap wr mb (2*p.e.length) (fun v=>p.ah.filter fun d=>decide (g.tail d=v)) by have:=HS.out;rwa[show Plain.outs g p p.e.length=fun v=>p.ah.filter fun d=>decide (g.tail d=v) from funext (Plain.CW g p)] at this);clear dK hc;go_wp2;go_ret;exact⟨mb,rfl,HF.out,b8.out.t HC.out,by grind⟩
def iC (w:World) (H:Nat) (v:Value) (q:List Int):Prop :=
 (∀ x∈q,aU x)/\q.length<4294967296 /\
 ((v=.slice none 0 0/\q=[])\/∃ g off cap cur,v=.slice (some ⟨g,off,none⟩) q.length cap/\H<=g/\w.heap[g]?=some (.cells cur 3 (0,0))/\q.length<=cap/\cap<=9223372036854775807/\off+cap<=cur.size /\
  ∀ i,i<q.length->cur[off+i]?=some (.int .i64 (q.getD i 0)))
theorem iC.aD {w w':World} {H:Nat} {v:Value} {q:List Int} {own:List Nat} (h:iC w H v q) (hc:ag own w w') (hn:∀ b∈v.ownBlock.toList,b ∉ own):iC w' H v q:=by
 obtain⟨h1,h2,h3⟩:=h;refine⟨h1,h2,h3.imp id ?_⟩;rintro ⟨g,off,cap,cur,rfl,k1,k2,k3⟩;exact⟨g,off,cap,cur,rfl,k1,hc.heap k2 (hn g (by simp[Qa])),k3⟩
theorem iC.E8 {w:World} {H:Nat} {v:Value} {q:List Int} (h:aj w H v q):iC w H v q:=by
 refine⟨h.2.1,h.2.2,?_⟩;rcases h.1.2 with ⟨rfl,h0⟩ | ⟨g,cap,cur,rfl,hg,hh,sU,oP,ja,Vj⟩
 ·exact Qd ⟨rfl,Qh.1 h0⟩
 refine Qf ⟨g,0,cap,cur,rfl,hg,hh,sU,oP,by omega,fun i hi=>?_⟩;have q1:(ints q)[i]?=some (.int .i64 (q.getD i 0)):=by simp[ints,Ql,hi]
 rw[<-Vj,Qp,if_pos (by omega)] at q1;rw[Qv];simpa using q1
theorem Vu {w:World} {g off:Nat} {cur:Array Value} {q:List Int} (hh:w.heap[g]?=some (.cells cur 3 (0,0))) (hq:∀ i,i<q.length->cur[off+i]?=some (.int .i64 (q.getD i 0))):∀ j u,(ints q)[j]?=some u->w.cell? ⟨g,off+j,none⟩=some u:=by
 intro j u hj;have rj:j<q.length:=by have:=(List.getElem?_eq_some_iff.1 hj).1;simpa[ints] using this
 rw[cell_of_row w g (off+j) cur _ _ hh,hq j rj,<-hj]
 grind [ints]
theorem Oz {w:World} {H:Nat} {v:Value} {q:List Int} {x:Int} (hq:iC w H v q) (hx:aU x) (hH:H<=w.heap.size) (hn:q.length+1<4294967296) (ty:TypeId) :
  ∃ v' w',(Builtin.append_ #[25,25] ty #[v,.slice (some ⟨w.heap.size,0,none⟩) 1 1]).run Tryz.prog (w.alloc (.cells #[.int .i64 x] 3))=.ok v' w'/\iC w' H v' (q++[x])/\ag v.ownBlock.toList w w':=by
 obtain⟨h1,h2,h3⟩:=hq;have kU:ag [] w (w.alloc (.cells #[.int .i64 x] 3)):=(ag.refl [] w).alloc _;have dj:(w.alloc (.cells #[.int .i64 x] 3)).heap.size=w.heap.size+1:=by simp
 obtain⟨i0,hi,y9,jq,nO⟩:=info_parts bW.hi;have A5:∀ y∈q++[x],aU y:=fun y hy=>(Qn.1 hy).elim (h1 y) (fun e=>by grind);have hlen:(q++[x]).length<4294967296:=by simp;omega
 have sB:∀ j u,[Value.int .i64 x][j]?=some u->(w.alloc (.cells #[.int .i64 x] 3)).cell? ((⟨w.heap.size,0,none⟩:Addr).add j)=some u:=cell_one_new w _ _;rcases h3 with ⟨rfl,rfl⟩ | ⟨g,off,cap,cur,rfl,hg,hh,sU,oP,hoc,ja⟩
 ·obtain⟨g,c,w',hr,r1,r2,-⟩:=kZ bW (w0:=w) (B:=H) (v:=.slice none 0 0) (n:=0) (xs:=[]) (World.ownsRow_nil _ _ _ _) hH (cs:=#[.int .i64 x]) rfl (Lv x) (by omega) (Qd rfl) ty
  exact⟨_,w',hr,iC.E8 ⟨by grind [ints],by grind,by simp⟩,r2⟩
 have hh1:=kU.heap hh (by simp);by_cases aaW:q.length+1<=cap
 ·have hr:=run_append_room_cells (P:=Tryz.prog) (w.alloc (.cells #[.int .i64 x] 3)) 25 ty 3 i0 bW.ht hi g off q.length cap ⟨w.heap.size,0,none⟩ 1 1 [.int .i64 x] (by grind) sB (by intro u hu;simp at hu;subst hu;rfl) aaW
   (fun j hj=>by
    have:j=0:=by simpa using hj
    subst this;have aL:off+q.length<cur.size:=by omega
    rw[jq,cell_of_row _ g _ cur _ _ hh1];simp[aL])
   (fun j hj=>by simp[Qk,hh1])
  rw[jq,Nat.mul_one] at hr;have aZ:(w.alloc (.cells #[.int .i64 x] 3)).setCells g (off+q.length) [.int .i64 x]=(w.alloc (.cells #[.int .i64 x] 3)).setCell ⟨g,off+q.length,none⟩ (.int .i64 x):=rfl;rw[aZ] at hr;refine⟨_,_,hr,⟨A5,hlen,Qf ⟨g,off,cap,cur.setIfInBounds (off+q.length) (.int .i64 x),by simp,hg,heap_setCell_same hh1 _ _,by simp;omega,oP,by grind,fun i hi=>?_⟩⟩,?_⟩
  ·by_cases e:i=q.length
   ·subst e
    simp[Ql,show off+q.length<cur.size by omega]
   have xA:i<q.length:=by simp at hi;omega
   rw[Array.getElem?_setIfInBounds_ne (by omega),ja i xA];simp[Ql,xA,List.getElem?_append_left xA]
  exact ((ag.refl _ w).alloc _).setCell (Qd (by simp[Qa])) _
 have hold:∀ j u,(ints q)[j]?=some u->(w.alloc (.cells #[.int .i64 x] 3)).cell? ((⟨g,off,none⟩:Addr).add j)=some u:=by
  intro j u hj;rw[Addr.add_lit]
  grind [Vu]
 obtain⟨v',w',hr,r1,r2⟩:=run_append_arg_grows (P:=Tryz.prog) (w.alloc (.cells #[.int .i64 x] 3)) 25 ty 3 i0 (.int .i64 0) 1 8 bW.ht hi y9 jq nO bW.hz bW.h0 ⟨g,off,none⟩ q.length cap (ints q) (by simp[ints]) hold ⟨w.heap.size,0,none⟩ 1 1 [.int .i64 x] rfl sB (by omega) (by unfold maxLen;omega) (by omega);have aJ:aj w' (w.heap.size+1) v' (q++[x]):=⟨by grind [ints],A5,hlen⟩;exact⟨v',w',hr,iC.E8 (aJ.base (by omega)),(((ag.refl [] w).alloc _).grown r2 (by simp)).mono (by simp)⟩
theorem Hn {ops:Array Oper} {rest:List Oper} {o:Oper} {a:Act} {Q:Exit->Act->World->Prop} {w:World} (hg:o.guard=none) (s x:Operand) (ho:o.op=.call { callee:=.builtin .append,args:=#[s,x],argTypes:=#[25,25] })
  {H:Nat} {v:Value} {q:List Int} {z:Int} (hs:a.eval s=v) (hx:a.eval x=.slice (some ⟨w.heap.size,0,none⟩) 1 1) (hq:iC w H v q) (hz:aU z) (hH:H<=w.heap.size) (hn:q.length+1<4294967296)
  (hK:∀ v' w',iC w' H v' (q++[z])->ag v.ownBlock.toList w w'->wpList Tryz.prog ops Q rest (a.put o.dst v') w'):wpList Tryz.prog ops Q (o :: rest) a (w.alloc (.cells #[.int .i64 z] 3)):=by
 refine wpList_plain hg fun K ta=>?_;obtain⟨v',w',hr,r1,r2⟩:=Oz hq hz hH hn o.type;unfold Oper.wp execOp;simp only[ho,resolve,invoke,builtin,Sem.run_bind,Sem.run_pure,Result.andThen_ok,Qi,Qj,Qm,hs,hx,hr];exact ta _ _ (hK v' w' r1 r2)
def J4 (w:World) (B H:Nat) (q:List Int):Prop:=∃ v,w.heap[B]?=some (.cells #[v] 25 (0,0))/\iC w H v q/\H<=B
def Kz (w:World) (H:Nat) (own:List Nat):Prop:=∀ j∈own,H<=j/\∃ cs t r,w.heap[j]?=some (.cells cs t r)/\(t=3\/t=25)
theorem iC.own {w:World} {H:Nat} {v:Value} {q:List Int} (h:iC w H v q):Kz w H v.ownBlock.toList:=by
 intro j hj;rcases h.2.2 with ⟨rfl,-⟩ | ⟨g,off,cap,cur,rfl,hg,hh,-⟩
 ·simp[Qa] at hj
 simp[Qa] at hj
 grind
theorem iC.shape {w:World} {H:Nat} {v:Value} {q:List Int} (h:iC w H v q):∃ ao c,v=.slice ao q.length c:=by
 rcases h.2.2 with ⟨rfl,rfl⟩ | ⟨g,off,cap,cur,rfl,-⟩
 all_goals grind
theorem iC.ne {w:World} {H B:Nat} {v:Value} {q:List Int} {cs:Array Value} {r:Nat × Nat} (h:iC w H v q) (hb:w.heap[B]?=some (.cells cs 25 r)):∀ j∈v.ownBlock.toList,j≠B:=by
 intro j hj e;subst e;rcases h.2.2 with ⟨rfl,-⟩ | ⟨g,off,cap,cur,rfl,hg,hh,-⟩
 ·simp[Qa] at hj
 simp[Qa] at hj
 grind
theorem J4.aD {w w':World} {B H:Nat} {q:List Int} {own:List Nat} (h:J4 w B H q) (hc:ag own w w') (hn:∀ j∈own,∀ cs t r,w.heap[j]?≠some (.cells cs t r)):J4 w' B H q:=by
 obtain⟨v,hb,hq,hH⟩:=h;refine⟨v,hc.heap hb (fun e=>hn B e _ _ _ hb),hq.aD hc (fun j hj e=>?_),hH⟩;obtain⟨-,cs,t,r,hh,-⟩:=hq.own j hj
 grind
theorem qq (B H:Nat) (q:List Int) (x:Int) (w:World) (hx:aU x) (hH:H<=w.heap.size) (hn:q.length+1<4294967296) (h:J4 w B H q) :
  Calls Tryz.prog 208 #[.int .i64 x,.pointer (some ⟨B,0,none⟩)] w fun e w'=>e=.returned (.tuple #[])/\J4 w' B H (q++[x])/\∃ own,Kz w H own/\ag own w w':=by
 obtain⟨v,hb,hq,hHB⟩:=h;have c0:w.cell? ⟨B,0,none⟩=some v:=by rw[cell_of_row _ _ _ _ _ _ hb];rfl
 have z0:w.frozen? ⟨B,0,none⟩=false:=by simp[Qk,hb]
 have jg:=lh (hq.ne hb);have pk:Hid (Kz w H (B :: v.ownBlock.toList)):=by
  intro j hj;rcases List.mem_cons.1 hj with rfl | hj
  ·exact⟨hHB,_,_,_,hb,Qf rfl⟩
  exact hq.own j hj
 obtain⟨ao,c,rfl⟩:=hq.shape;have HQ:=lh hq;have HB:=lh hb;have HZ:=lh z0;have Th:=lh c0;clear hq hb
 go_enter Tryz.func208,Tryz.ntmps208
 go_wp2_with (at_builtin;refine Hn rfl _ _ rfl rfl rfl HQ.out hx hH hn ?_;intro v' w1 r1 c1;have NB:B ∉ (Qb ao q.length c).ownBlock.toList:=fun e=>jg.out B e rfl;have k0:=c1.cell Th.out NB;have kz:=c1.frozen Th.out HZ.out NB;have KB:=lh (c1.heap HB.out NB);obtain⟨TS,c',rfl⟩:=r1.shape;have R1:=lh r1;have C1:=lh c1;clear r1 c1 NB)
 refine bodyPost_end (v:=.tuple #[]) (by simp[results,Tryz.results208,go_sem]) rfl ⟨rfl,⟨_,heap_setCell_same KB.out 0 _,?_,hHB⟩,_,pk.out,?_⟩
 ·have hr:=R1.out.aD ((ag.refl [B] w1).setCell (p:=⟨B,0,none⟩) (Qd (by simp)) (.slice TS (q++[x]).length c')) (fun b hb=>by simpa using R1.out.ne KB.out b hb)
  simpa using hr
 exact ((show ag (Qb ao q.length c).ownBlock.toList w w1 from C1.out).mono (fun j hj=>Qd (List.mem_cons_of_mem _ hj))).setCell (Qd (by simp)) _
theorem vU (B H:Nat) (w:World) (h:J4 w B H []) :
  Calls Tryz.prog 209 #[.pointer (some ⟨B,0,none⟩)] w fun e w'=>e=.returned (.tuple #[.int .i64 0,.bool false])/\w=w':=by
 obtain⟨v,hb,hq,hHB⟩:=h;have c0:w.cell? ⟨B,0,none⟩=some v:=by rw[cell_of_row _ _ _ _ _ _ hb];rfl
 obtain⟨ao,c,rfl⟩:=hq.shape;rw[Qu] at c0;clear hq hb
 go_enter Tryz.func209,Tryz.ntmps209
 go_wp2;exact bodyPost_ret (v:=.tuple #[.int .i64 0,.bool false]) (by simp[results,Tryz.results209,go_sem]) rfl ⟨rfl,rfl⟩
theorem lP (B H:Nat) (x:Int) (q:List Int) (w:World) (h:J4 w B H (x :: q)) :
  Calls Tryz.prog 209 #[.pointer (some ⟨B,0,none⟩)] w fun e w'=>e=.returned (.tuple #[.int .i64 x,.bool true])/\J4 w' B H q/\∃ own,Kz w H own/\ag own w w':=by
 obtain⟨v,hb,hq,hHB⟩:=h;have c0:w.cell? ⟨B,0,none⟩=some v:=by rw[cell_of_row _ _ _ _ _ _ hb];rfl
 have z0:w.frozen? ⟨B,0,none⟩=false:=by simp[Qk,hb]
 have jg:=hq.ne hb;have pk:Hid (Kz w H [B]):=by
  intro j hj
  grind
 obtain⟨h1,h2,h3⟩:=hq;rcases h3 with ⟨-,e⟩ | ⟨g,off,cap,cur,rfl,hg,hh,sU,oP,hoc,ja⟩
 ·cases e
 have hgB:g≠B:=jg g (by simp[Qa]);have ch:w.cell? ⟨g,off,none⟩=some (.int .i64 x):=by
  rw[cell_of_row w g off cur _ _ hh];have:=ja 0 (by simp)
  grind
 simp only[List.length_cons] at c0 sU h2;have fin:∀ oH eP,Hid (oH+eP<=cur.size/\q.length<=eP/\eP<=9223372036854775807/\∀ i,i<q.length->cur[oH+i]?=some (.int .i64 (q.getD i 0)))->Hid (J4 (w.setCell ⟨B,0,none⟩ (.slice (some ⟨g,oH,none⟩) q.length eP)) B H q):=by
  intro oH eP hk;obtain⟨k1,k2,k3,k4⟩:=hk.out;refine lh ⟨_,heap_setCell_same hb 0 _,⟨fun y hy=>h1 y (by simp[hy]),by omega,Qf ⟨g,oH,eP,cur,rfl,hg,?_,k2,k3,k1,k4⟩⟩,hHB⟩;exact ((ag.refl [B] w).setCell (p:=⟨B,0,none⟩) (Qd (by simp)) (.slice (some ⟨g,oH,none⟩) q.length eP)).heap hh (by grind)
 have ET:(0:Int)<((q.length+1:Nat):Int):=by omega
 have EG:(((q.length+1:Nat):Int)==0)=false:=by rw[beq_eq_false_iff_ne];omega
 have Dv:q.length+1 - 1=q.length:=by omega
 by_cases iD:1=cap
 ·subst iD
  have hq0:q.length=0:=by omega
  have HF:=fin off 0 (lh ⟨by omega,by omega,by omega,fun i hi=>by omega⟩);clear fin hb hh ja jg h1 hg
  go_enter Tryz.func209,Tryz.ntmps209
  go_wp2;refine bodyPost_ret (v:=.tuple #[.int .i64 x,.bool true]) (by simp[results,Tryz.results209,go_sem]) rfl ⟨rfl,?_,[B],pk.out,(ag.refl _ w).setCell (Qd (by simp)) _⟩;have oh:=HF.out
  grind
 have HF:=fin (off+1) (cap - 1) (lh ⟨by omega,by omega,by omega,fun i hi=>by
  have:=ja (i+1) (by simp;omega)
  grind⟩)
 clear fin hb hh ja jg h1 hg
 go_enter Tryz.func209,Tryz.ntmps209
 go_wp2;refine bodyPost_ret (v:=.tuple #[.int .i64 x,.bool true]) (by simp[results,Tryz.results209,go_sem]) rfl ⟨rfl,HF.out,[B],pk.out,(ag.refl _ w).setCell (Qd (by simp)) _⟩
theorem xT (w:World) :
  Calls Tryz.prog 201 #[] w fun e w'=>e=.returned (.tuple #[.func (.func 208) #[] #[.pointer (some ⟨w.heap.size,0,none⟩)],.func (.func 209) #[] #[.pointer (some ⟨w.heap.size,0,none⟩)]])/\J4 w' w.heap.size w.heap.size []/\ag [] w w':=by
 have hmf:∀ (fn:Fn) (first cap:Array Value) (w:World),(Instr.makeFunc fn first cap).run Tryz.prog w=.ok (.func fn first cap) w:=fun _ _ _ _=>rfl;have HQ:Hid (J4 (w.alloc (.cells #[.slice none 0 0] 25)) w.heap.size w.heap.size []):=⟨_,heap_alloc_new w _,⟨by simp,by simp,Qd ⟨rfl,rfl⟩⟩,Qg _⟩;have HC:=lh ((ag.refl [] w).alloc (.cells #[.slice none 0 0] 25))
 go_enter Tryz.func201,Tryz.ntmps201
 go_wp2;refine bodyPost_ret (v:=.tuple #[.func (.func 208) #[] #[.pointer (some ⟨w.heap.size,0,none⟩)],.func (.func 209) #[] #[.pointer (some ⟨w.heap.size,0,none⟩)]]) (by simp[results,Tryz.results201,go_sem]) rfl ⟨rfl,HQ.out,HC.out⟩
end Go.Proofs.YtoiflofhcmjpoaaGreat
namespace Go.Proofs.YtoiflofhcmjpoaaGreat.Plain
def left (p:Pt) (f:Int->Option Int):Nat:=(p.v.filter fun u=>(f u).isNone).length
theorem qB {p:Pt} {f:Int->Option Int} {x c:Int} (hn:p.v.Nodup) (hx:x∈p.v) (hf:f x=none):left p (fun y=>if y=x then some c else f y)+1=left p f:=by
 unfold left;generalize p.v=l at *;have none_:∀ {l:List Int},x ∉ l->(l.filter fun u=>(if u=x then some c else f u).isNone)=l.filter fun u=>(f u).isNone:=by
  intro l hl;refine List.filter_congr fun u hu=>?_
  grind
 induction l with
 | nil=>simp at hx
 | cons y l ih =>
  all_goals grind
structure KG (g:Gr) (p:Pt) (shut a:Int) (f:Int->Option Int) (m:Nat):Prop where
 base:f a≠none
 OC:∀ u,f u≠none->b9 g p shut a u
 Oo:∀ u,f u≠none->u∈p.v
 val:∀ u c,f u=some c->0<=c/\c+(left p f:Int)<=p.v.length
 fe:m+left p f<=p.v.length
def Jf (g:Gr) (p:Pt) (shut:Int) (f:Int->Option Int) (u:Int):Prop:=∀ x,oI g p u x->x≠shut->f x≠none
theorem KG.start {g:Gr} {p:Pt} {shut a:Int} (hp:aB g p) (ha:a∈p.v):KG g p shut a (fun y=>if y=a then some 0 else none) (0+1):=by
 have hl:=qB (f:=fun _=>none) (c:=0) hp.vn ha rfl;have h0:left p (fun _=>none)=p.v.length:=by unfold left;rw[List.filter_eq_self.2 (by simp)]
 refine⟨by simp,fun u hu=>?_,fun u hu=>?_,fun u c hu=>?_,by omega⟩
 ·by_cases e:u=a
  ·subst e;exact .here
  simp[e] at hu
 all_goals grind
theorem KG.add {g:Gr} {p:Pt} {shut a v x c:Int} {f:Int->Option Int} {m:Nat} (h:KG g p shut a f m) (hp:aB g p) (hx:x∈p.v) (hn:oI g p v x) (hs:x≠shut) (hv:f v=some c) (hf:f x=none):KG g p shut a (fun y=>if y=x then some (c+1) else f y) (m+1):=by
 have hl:=qB (f:=f) (c:=c+1) hp.vn hx hf;have hc:=h.val v c hv;have hm:=h.fe;refine⟨?_,fun u hu=>?_,fun u hu=>?_,fun u d hu=>?_,by omega⟩
 ·show (if a=x then some (c+1) else f a)≠none
  by_cases e:a=x
  ·simp[e]
  rw[if_neg e];exact h.base
 ·by_cases e:u=x
  ·subst e;exact (h.OC v (by grind)).step hn hs
  exact h.OC u (by grind)
 ·by_cases e:u=x
  ·subst e;exact hx
  exact h.Oo u (by simpa[e] using hu)
 by_cases e:u=x
 ·simp[e] at hu;subst hu;omega
 have:=h.val u d (by simpa[e] using hu);omega
theorem Jf.add {g:Gr} {p:Pt} {shut u x c:Int} {f:Int->Option Int} (h:Jf g p shut f u):Jf g p shut (fun y=>if y=x then some c else f y) u:=by
 intro z hz hs;show (if z=x then some c else f z)≠none;by_cases e:z=x
 ·simp[e]
 rw[if_neg e];exact h z hz hs
theorem AY {g:Gr} {p:Pt} (_hp:aB g p) {u x:Int}:oI g p u x↔∃ d∈p.ah.filter fun d=>decide (g.tail d=u),g.head d=x:=by
 constructor
 ·rintro ⟨e,he,h | h⟩
  ·have h1:=et g e
   all_goals grind [aw]
  have hd:2*e∈p.ah:=aw.2 (by rwa[show 2*e / 2=e by omega]);have h1:=et g e;refine⟨aT (2*e),List.mem_filter.2 ⟨bQ hd,?_⟩,?_⟩
  all_goals grind [aS,bC]
 all_goals grind [eR]
theorem KG.all {g:Gr} {p:Pt} {shut a:Int} {f:Int->Option Int} {m:Nat} (h:KG g p shut a f m) (hd:∀ u,f u≠none->Jf g p shut f u) (v:Int):f v≠none↔b9 g p shut a v:=by
 refine⟨h.OC v,fun hc=>?_⟩
 induction hc with
 | here=>exact h.base
 | step _ hn hs ih=>exact hd _ ih _ hn hs
end Go.Proofs.YtoiflofhcmjpoaaGreat.Plain
