/- Rows of ints of a call's own: appends, stores, literals; lists of lists; calls inside drawn regions. Conditions: what each law says. -/
import Derived.Test.YtbkjljffnkdcjaaGreatD9Rows2
import Derived.Laws.OwnMore
import Derived.Maps.OwnRows
import Derived.Maps.GroupsBeside
import Derived.Test.YtbkjljffnkdcjaaGreatD9GraphB
open Nat renaming le_trans→Qa,le_refl→Qf,mul_le_mul_left→Qq,zero_le→Qx
open List renaming length_drop→Qb,length_append→Qd,getD→Qg,getElem?_append_left→Qk,map_cons→Ql,map_toArray→Qm,length_take→Qn,length_eq_zero_iff→Qo,getElem?_take→Qr,map_nil→Qs,mem_append→Qt,length_set→Qu,nil_append→Qv
open Or renaming inr→Qc,inl→Qh
open Go.Value renaming slice→Qe,ownBlock→Qp
open Int renaming tmod_eq_emod_of_nonneg→Qi,tdiv_eq_ediv_of_nonneg→Qj
open Option renaming some→Qw
open Go.Act renaming put→Qy
namespace Go.Proofs.YtbkjljffnkdcjaaGreat
open Go.RowKit Go.Maps
theorem Ib {t e:TypeId} {z:Value} {size bytes:Nat} (E:pD t e z size bytes) {w:World} {B B':Nat} {v u:Value} {n m:Nat} {xs ys:List Value} (bL:w.ownsRow B e size v n xs) (DU:w.ownsRow B' e size u m ys) (hB:B<=w.heap.size)
  (h1:∀ y∈ys,y.oneCell'=true) (hn:n+m<68719476736) (ty:TypeId) :
  ∃ v' w',(Builtin.append_ #[t,t] ty #[v,u]).run Tryz.prog w=.ok v' w'/\w'.ownsRow B e size v' (n+m) (xs++ys)/\ai v.ownBlock.toList w w'/\(∀ b∈v'.ownBlock.toList,b∈v.ownBlock.toList\/w.heap.size<=b):=by
 obtain⟨i0,hi,Dl,jZ,pF⟩:=info_parts E.hi;have hb:=E.hb;rcases DU.2 with ⟨rfl,rfl⟩ | ⟨g,cap,cur,rfl,hg,hh,tI,lN,jQ,Sm⟩
 ·have hy:ys=[]:=Qo.1 (by rw[DU.1];simp)
  subst hy;exact⟨v,w,run_append_owned_none w B t ty e i0 size E.ht hi v n xs bL,by simpa using bL,ai.refl _ _,fun b hb=>Qh hb⟩
 have hl:=DU.1;have tJ:∀ j y,ys[j]?=some y->w.cell? ((⟨g,0,none⟩:Addr).add j)=some y:=by
  intro j y hy;have iw:(⟨g,0,none⟩:Addr).add j=⟨g,j,none⟩:=by unfold Addr.add;split <;> simp_all
  rw[iw,cell_of_row w _ j cur e (0,0) hh];rw[<-Sm] at hy;rw[Qr] at hy;split at hy
  ·simpa using hy
  cases hy
 obtain⟨v',w',hr,h2,h3,-,h5⟩:=run_append_own_at (P:=Tryz.prog) w B t ty e i0 z size bytes E.ht hi Dl jZ pF E.hz E.h0 v n xs bL ⟨g,0,none⟩ m cap ys hl tJ h1 (by unfold maxLen;omega) (Qa (Qq _ hb) (by omega)) hB;refine⟨v',w',hr,h2,(ai.refl _ _).grown h3 (fun j hj=>Qh (by rw[hj];simp)),fun b hb=>?_⟩;rcases h5 with q | q
 ·exact Qh (by rw[<-q];exact hb)
 rw[q] at hb;simp at hb;exact Qc (by omega)
theorem zZ {t e:TypeId} {z:Value} {size bytes:Nat} (E:pD t e z size bytes) {o:Oper} {a:Act} {K:Act->World->Prop} {Q:Exit->Act->World->Prop} {w:World} (s x:Operand) (ho:o.op=.call { callee:=.builtin .append,args:=#[s,x],argTypes:=#[t,t] })
  {B B':Nat} {v u:Value} {n m:Nat} {xs ys:List Value} (hs:a.eval s=v) (hx:a.eval x=u) (bL:w.ownsRow B e size v n xs) (DU:w.ownsRow B' e size u m ys) (hB:B<=w.heap.size)
  (h1:∀ y∈ys,y.oneCell'=true) (hn:n+m<68719476736)
  (hK:∀ v' w',w'.ownsRow B e size v' (n+m) (xs++ys)->ai v.ownBlock.toList w w'->(∀ b∈v'.ownBlock.toList,b∈v.ownBlock.toList\/w.heap.size<=b)->K (a.put o.dst v') w'):o.wp Tryz.prog a w K Q:=by
 obtain⟨v',w',hr,r1,r2,r3⟩:=Ib E bL DU hB h1 hn o.type;unfold Oper.wp execOp;simp only[ho,resolve,invoke,builtin,Sem.run_bind,Sem.run_pure,Result.andThen_ok,Qm,Ql,Qs,hs,hx,hr];exact hK v' w' r1 r2 r3
def ax (w:World) (B:Nat) (v:Value) (l:List Int):Prop:=w.ownsRow B 3 1 v l.length (ints l)/\(∀ x∈l,bn x)/\l.length<4294967296
theorem ax.ints {w:World} {B:Nat} {v:Value} {l:List Int} (h:ax w B v l):aJ w v l:=by
 obtain⟨h,h1,h2⟩:=h;rcases h.2 with ⟨rfl,h0⟩ | ⟨g,cap,cur,rfl,hg,hh,tI,lN,jQ,Sm⟩
 ·have:l=[]:=Qo.1 h0
  subst this;exact aJ.nil _
 refine⟨_,cap,rfl,h1,by omega,fun _=>⟨g,0,rfl,fun i hi=>?_⟩⟩;rw[Nat.zero_add,cell_of_row w _ i cur 3 (0,0) hh];have:cur.toList[i]?=some (.int .i64 (l.getD i 0)):=by
  have q:(Go.Proofs.YtbkjljffnkdcjaaGreat.ints l)[i]?=some (.int .i64 (l.getD i 0)):=by simp[Go.Proofs.YtbkjljffnkdcjaaGreat.ints,Qg,hi]
  rw[<-Sm,Qr,if_pos (by omega)] at q;exact q
 simpa using this
theorem ax.aM {w w':World} {B:Nat} {v:Value} {l:List Int} {own:List Nat} (h:ax w B v l) (hc:ai own w w') (hn:∀ b∈v.ownBlock.toList,b ∉ own):ax w' B v l :=
 ⟨bE h.1 hc (fun b hb=>hn b (by rw[hb];simp)),h.2⟩
theorem ax.low {w:World} {B:Nat} {v:Value} {l:List Int} (h:ax w B v l):∀ b∈v.ownBlock.toList,B<=b/\b<w.heap.size:=fun b hb=>h.1.lt b (by simpa using hb)
theorem wB (ao:Option Addr) (n c:Nat):aL (.slice ao n c)=(Qe ao n c).ownBlock.toList:=rfl
theorem ax.shape {w:World} {B:Nat} {v:Value} {l:List Int} (h:ax w B v l):∃ ao c,v=.slice ao l.length c:=cM h.1
theorem ax.aL {w:World} {B:Nat} {v:Value} {l:List Int} (h:ax w B v l):aL v=v.ownBlock.toList:=by
 obtain⟨ao,c,rfl⟩:=h.shape;rfl
theorem AH {l:List Int}:∀ y∈ints l,y.oneCell'=true:=by
 intro y hy;simp only[ints,List.mem_map] at hy;obtain⟨x,-,rfl⟩:=hy;rfl
theorem PY {o:Oper} {a:Act} {K:Act->World->Prop} {Q:Exit->Act->World->Prop} {w:World} (s x:Operand) (ho:o.op=.call { callee:=.builtin .append,args:=#[s,x],argTypes:=#[25,25] })
  {B B':Nat} {v u:Value} {l m:List Int} (hs:a.eval s=v) (hx:a.eval x=u) (h1:ax w B v l) (h2:ax w B' u m) (hB:B<=w.heap.size) (hn:l.length+m.length<4294967296)
  (hK:∀ v' w',ax w' B v' (l++m)->ai (aL v) w w'->(∀ b∈aL v',b∈aL v\/w.heap.size<=b)->K (a.put o.dst v') w'):o.wp Tryz.prog a w K Q :=
 zZ cJ s x ho hs hx h1.1 h2.1 hB AH (by omega) fun v' w' r1 r2 r3=>by
  have hr:ax w' B v' (l++m):=⟨by rw[Qd];simpa[ints] using r1,fun y hy=>(Qt.1 hy).elim (h1.2.1 y) (h2.2.1 y),by rw[Qd];exact hn⟩;exact hK v' w' hr (by rw[h1.aL];exact r2) (fun b hb=>by rw[h1.aL];exact r3 b (by rw[<-hr.aL];exact hb))
theorem ax.base {w:World} {B B':Nat} {v:Value} {l:List Int} (h:ax w B' v l) (hB:B<=B'):ax w B v l:=by
 obtain⟨⟨h0,h1⟩,h2⟩:=h;refine⟨⟨h0,h1.imp id ?_⟩,h2⟩;rintro ⟨g,cap,cur,e,q,r⟩;exact⟨g,cap,cur,e,by omega,r⟩
section
variable {ops : Array Oper} {Q : Exit -> Act -> World -> Prop} {fr : (Nat -> Value) -> Act} {z : Nat} {fin : List Nat} {w1 : World} {i : Nat} {rest : List (Oper × Info)} {L : List (Value -> World -> Prop)} {o : Oper} {d : Info}
end
theorem ax.some {w:World} {B:Nat} {ao:Option Addr} {n c:Nat} {l:List Int} (h:ax w B (.slice ao n c) l) (hl:0<l.length):∃ g,ao=some ⟨g,0,none⟩/\∀ i,i<l.length->w.cell? ⟨g,i,none⟩=.some (.int .i64 (l.getD i 0)):=by
 rcases h.1.2 with ⟨e,h0⟩ | ⟨g,cap,cur,e,-,hh,-⟩
 ·omega
 obtain⟨Nr,c',e1,h1,h2,h3⟩:=h.ints;obtain⟨b,off,rfl,h4⟩:=h3 (by intro q;rw[q] at hl;simp at hl);simp only[Qe.injEq] at e e1;obtain⟨rfl,-,-⟩:=e;obtain⟨e2,-,-⟩:=e1;simp only[Qw.injEq,Addr.mk.injEq] at e2;obtain⟨rfl,rfl,-⟩:=e2;exact⟨_,rfl,fun i hi=>by simpa using h4 i hi⟩
theorem Xq {ops:Array Oper} {rest:List Oper} {o:Oper} {a:Act} {Q:Exit->Act->World->Prop} {w:World} (hg:o.guard=none) (s x:Operand) (ho:o.op=.call { callee:=.builtin .append,args:=#[s,x],argTypes:=#[25,25] })
  {B B':Nat} {v u:Value} {l m:List Int} (hs:a.eval s=v) (hx:a.eval x=u) (h1:ax w B v l) (h2:ax w B' u m) (hB:B<=w.heap.size) (hn:l.length+m.length<4294967296)
  (hK:∀ v' w',ax w' B v' (l++m)->ai (aL v) w w'->(∀ b∈aL v',b∈aL v\/w.heap.size<=b)->wpList Tryz.prog ops Q rest (a.put o.dst v') w'):wpList Tryz.prog ops Q (o :: rest) a w :=
 wpList_plain hg fun _ uM=>PY s x ho hs hx h1 h2 hB hn fun v' w' r1 r2 r3=>uM _ _ (hK v' w' r1 r2 r3)
theorem ax.set {w:World} {B g n c:Nat} {l:List Int} (h:ax w B (.slice (.some ⟨g,0,none⟩) n c) l) (i:Nat) (x:Int) (hx:bn x):ax (w.setCell ⟨g,i,none⟩ (.int .i64 x)) B (.slice (.some ⟨g,0,none⟩) n c) (l.set i x):=by
 obtain⟨ao,c',e⟩:=h.shape;simp only[Qe.injEq] at e;obtain⟨-,rfl,-⟩:=e;refine⟨?_,fun y hy=>?_,by rw[Qu];exact h.2.2⟩
 ·have:=(h.1.stored i (.int .i64 x)).1
  rw[Qu,_root_.Go.Proofs.YtbkjljffnkdcjaaGreat.ints,List.map_set];exact this
 rcases List.mem_or_eq_of_mem_set hy with q | q
 ·exact h.2.1 y q
 rw[q];exact hx
theorem ax.free {w:World} {B g n c:Nat} {l:List Int} (h:ax w B (.slice (.some ⟨g,0,none⟩) n c) l) (hl:0<l.length) (i:Nat):w.frozen? ⟨g,i,none⟩=false:=by
 rcases h.1.2 with ⟨e,h0⟩ | ⟨g',cap,cur,e,-,hh,-⟩
 ·omega
 simp only[Qe.injEq,Qw.injEq,Addr.mk.injEq] at e;obtain⟨⟨rfl,-⟩,-⟩:=e;simp[World.frozen?,hh]
theorem bW.add {w w':World} {B g cap:Nat} {ov v:Value} {vs:List Value} {ll:List (List Int)} {l:List Int} (h:bW w B ov vs ll) (hv:w.ownsRow B 3 1 v l.length (ints l))
  (jE:∀ k b,k<vs.length->(vs.getD k undef).ownBlock=some b->v.ownBlock≠some b) (hn:w'.ownsRow B 25 1 (.slice (some ⟨g,0,none⟩) (vs.length+1) cap) (vs.length+1) (vs++[v])) (hc:ai ov.ownBlock.toList w w') :
  bW w' B (.slice (some ⟨g,0,none⟩) (vs.length+1) cap) (vs++[v]) (ll++[l]):=by
 have hl:=h.len;have old:∀ k,k<vs.length->(vs++[v]).getD k undef=vs.getD k undef/\(ll++[l]).getD k []=ll.getD k []:=by
  intro k hk;simp only[Qg];rw[Qk hk,Qk (by omega)];exact⟨rfl,rfl⟩
 have new:(vs++[v]).getD vs.length undef=v/\(ll++[l]).getD vs.length []=l:=by
  simp[Qg,hl]
 have keep:∀ {u:Value} {m:List Int},w.ownsRow B 3 1 u m.length (ints m)->w'.ownsRow B 3 1 u m.length (ints m):=by
  intro u m hu;refine bE hu hc (fun b hb e1=>?_);rcases jJ hu h.out (by decide) with q | q
  ·rw[q] at hb;cases hb
  simp at e1;exact q (hb.trans e1.symm)
 refine⟨by simpa using hn,by simp[hl],fun k hk=>?_,fun k j hk hj bh=>?_⟩
 ·by_cases e:k<vs.length
  ·rw[(old k e).1,(old k e).2]
   exact keep (h.rows k e)
  have:k=vs.length:=by simp at hk;omega
  subst this;rw[new.1,new.2];exact keep hv
 by_cases e:k<vs.length
 ·rw[(old k e).1]
  by_cases e2:j<vs.length
  ·rw[(old j e2).1]
   exact h.apart k j e e2 bh
  have:j=vs.length:=by simp at hj;omega
  subst this;rw[new.1];cases hq:(vs.getD k undef).ownBlock with
  | none=>exact Qh rfl
  | some b=>exact Qc (fun q=>jE k b e hq q.symm)
 have:k=vs.length:=by simp at hk;omega
 subst this;have e2:j<vs.length:=by simp at hj;omega
 rw[new.1,(old j e2).1];cases hq:(vs.getD j undef).ownBlock with
 | none =>
  cases zb:v.ownBlock with
  | none=>exact Qh rfl
  | some b=>exact Qc (by simp)
 | some b=>exact Qc (fun q=>jE j b e2 hq q)
theorem oR {w:World} {B B':Nat} {e:TypeId} {size:Nat} {v:Value} {n:Nat} {xs:List Value} (h:w.ownsRow B' e size v n xs) (hB:B<=B'):w.ownsRow B e size v n xs:=by
 obtain⟨h0,h1⟩:=h;refine⟨h0,h1.imp id ?_⟩;rintro ⟨g,cap,cur,e,q,r⟩;exact⟨g,cap,cur,e,by omega,r⟩
theorem mf {ops:Array Oper} {rest:List Oper} {o:Oper} {a:Act} {Q:Exit->Act->World->Prop} {w:World} (hg:o.guard=none) (l c:Operand) (kU:o.op=Op.makeSlice 25 l c) {B n:Nat} (hl:a.eval l=.int .i64 0) (hc:a.eval c=.int .i64 n) (hB:B<=w.heap.size) (hn:n<4294967296)
  (hK:∀ v w',ax w' B v []->ai [] w w'->(∀ b∈aL v,w.heap.size<=b)->wpList Tryz.prog ops Q rest (a.put o.dst v) w'):wpList Tryz.prog ops Q (o :: rest) a w:=by
 obtain⟨i0,hi,Dl,jZ,pF⟩:=info_parts cJ.hi;refine wpList_make_own w hg l c 25 kU B 3 i0 (.int .i64 0) 1 cJ.ht hi Dl jZ .i64 .i64 (n:Int) n hl hc rfl ?_ (by unfold maxLen;omega) hB (fun w' h1 h2=>hK _ w' ⟨h1,by simp,by simp⟩ ((ai.refl _ _).grown h2 (by simp)) (by simp[aL,Qp]));rw[pF];omega
theorem iL {w:World} {B:Nat} {v u:Value} {l m:List Int} (h1:ax w B v l) (h2:aJ w u m) (hB:B<=w.heap.size) (hn:l.length+m.length<4294967296) (ty:TypeId) :
  ∃ v' w',(Builtin.append_ #[25,25] ty #[v,u]).run Tryz.prog w=.ok v' w'/\ax w' B v' (l++m)/\ai (aL v) w w'/\(∀ b∈aL v',b∈aL v\/w.heap.size<=b):=by
 obtain⟨i0,hi,Dl,jZ,pF⟩:=info_parts cJ.hi;have hb:=cJ.hb;obtain⟨ao,cap,rfl,dS,ql,hc⟩:=h2;have fin:∀ (ad:Addr),ao=some ad->(∀ j y,(ints m)[j]?=some y->w.cell? (ad.add j)=some y)->∃ v' w',(Builtin.append_ #[25,25] ty #[v,.slice ao m.length cap]).run Tryz.prog w=.ok v' w'/\ax w' B v' (l++m)/\ai (aL v) w w'/\(∀ b∈aL v',b∈aL v\/w.heap.size<=b):=by
  rintro ad rfl tJ;obtain⟨v',w',hr,r2,r3,-,r5⟩:=run_append_own_at (P:=Tryz.prog) w B 25 ty 3 i0 (.int .i64 0) 1 8 cJ.ht hi Dl jZ pF cJ.hz cJ.h0 v l.length (ints l) h1.1 ad m.length cap (ints m) (by simp[ints]) tJ AH (by unfold maxLen;omega) (Qa (Qq _ (Qf _)) (by omega)) hB;have bd:ax w' B v' (l++m):=⟨by rw[Qd];simpa[ints] using r2,fun y hy=>(Qt.1 hy).elim (h1.2.1 y) (dS y),by rw[Qd];exact hn⟩;refine⟨v',w',hr,bd,(ai.refl _ _).grown r3 (fun j hj=>Qh (by rw[h1.aL,hj];simp)),fun b hb=>?_⟩;rw[bd.aL] at hb;rw[h1.aL];rcases r5 with q | q
  ·exact Qh (by rw[<-q];exact hb)
  rw[q] at hb;simp at hb;exact Qc (by omega)
 cases ao with
 | none =>
  have Sg:m=[]:=by
   cases m with
   | nil=>rfl
   | cons x r=>obtain⟨b,off,e,-⟩:=hc (by simp);cases e
  subst Sg;refine⟨v,w,?_,by simpa using h1,ai.refl _ _,fun b hb=>Qh hb⟩;rcases h1.1.2 with ⟨rfl,_⟩ | ⟨g,qC,cur,rfl,_,_,tI,_⟩
  ·simp[Builtin.append_,run_underlying cJ.ht,sizeOf,typeInfo,hi,Builtin.lenOf,Builtin.firstCells]
  simp[Builtin.append_,run_underlying cJ.ht,sizeOf,typeInfo,hi,Builtin.lenOf,Builtin.firstCells,tI,storeCells]
 | some ad =>
  by_cases Sg:m=[]
  ·subst Sg
   exact fin ad rfl (by simp[ints])
  obtain⟨b,off,e,jM⟩:=hc Sg;cases e;refine fin ⟨b,off,none⟩ rfl fun j y hy=>?_;have iw:(⟨b,off,none⟩:Addr).add j=⟨b,off+j,none⟩:=by unfold Addr.add;split <;> simp_all
  have hj:j<m.length:=by have:=(List.getElem?_eq_some_iff.1 hy).1;simpa[ints] using this
  rw[iw,jM j hj,<-hy];simp[ints,Qg,hj]
theorem b9 {ops:Array Oper} {rest:List Oper} {o:Oper} {a:Act} {Q:Exit->Act->World->Prop} {w:World} (hg:o.guard=none) (s x:Operand) (ho:o.op=.call { callee:=.builtin .append,args:=#[s,x],argTypes:=#[25,25] })
  {B:Nat} {v u:Value} {l m:List Int} (hs:a.eval s=v) (hx:a.eval x=u) (h1:ax w B v l) (h2:aJ w u m) (hB:B<=w.heap.size) (hn:l.length+m.length<4294967296)
  (hK:∀ v' w',ax w' B v' (l++m)->ai (aL v) w w'->(∀ b∈aL v',b∈aL v\/w.heap.size<=b)->wpList Tryz.prog ops Q rest (a.put o.dst v') w'):wpList Tryz.prog ops Q (o :: rest) a w:=by
 refine wpList_plain hg fun K uM=>?_;obtain⟨v',w',hr,r1,r2,r3⟩:=iL h1 h2 hB hn o.type;unfold Oper.wp execOp;simp only[ho,resolve,invoke,builtin,Sem.run_bind,Sem.run_pure,Result.andThen_ok,Qm,Ql,Qs,hs,hx,hr];exact uM _ _ (hK v' w' r1 r2 r3)
theorem sr {o:Oper} {a:Act} {K:Act->World->Prop} {Q:Exit->Act->World->Prop} {w:World} (s x:Operand) (ho:o.op=.call { callee:=.builtin .append,args:=#[s,x],argTypes:=#[25,25] })
  {B:Nat} {v u:Value} {l m:List Int} (hs:a.eval s=v) (hx:a.eval x=u) (h1:ax w B v l) (h2:aJ w u m) (hB:B<=w.heap.size) (hn:l.length+m.length<4294967296)
  (hK:∀ v' w',ax w' B v' (l++m)->ai (aL v) w w'->(∀ b∈aL v',b∈aL v\/w.heap.size<=b)->K (a.put o.dst v') w'):o.wp Tryz.prog a w K Q:=by
 obtain⟨v',w',hr,r1,r2,r3⟩:=iL h1 h2 hB hn o.type;unfold Oper.wp execOp;simp only[ho,resolve,invoke,builtin,Sem.run_bind,Sem.run_pure,Result.andThen_ok,Qm,Ql,Qs,hs,hx,hr];exact hK v' w' r1 r2 r3
theorem bZ {w:World} {B:Nat} {v:Value} {l:List Int} (h:ax w B v l):∀ j∈aL v,∃ cs r,w.heap[j]?=some (.cells cs 3 r):=by
 intro j hj;rw[h.aL] at hj;rcases h.1.2 with ⟨rfl,_⟩ | ⟨g,c,cur,rfl,hb,hh,_⟩
 ·simp[Qp] at hj
 simp[Qp] at hj;subst hj;exact⟨_,_,hh⟩
namespace Plain
def vi (l:List Int):Nat->Nat
 | 0=>0
 | k+1=>if l.getD k 0<l.getD (vi l k) 0 then k else vi l k
theorem Iz {l:List Int} (h:0<l.length):∀ k,k<=l.length->vi l k<l.length
 | 0,_=>h
 | k+1,hk=>by
  unfold vi;split
  ·omega
  exact Iz h k (by omega)
theorem Hb (l:List Int):∀ k,vi l k<=k
 | 0=>Qf _
 | k+1=>by
  unfold vi;split
  ·omega
  have:=Hb l k;omega
def first (l:List Int):List Int:=l.drop (vi l l.length)++l.take (vi l l.length)
end Plain
theorem aJ.drop {w:World} {b off cap:Nat} {l:List Int} (dS:∀ x∈l,bn x) (hm:l.length<=9223372036854775807) (hc:∀ i,i<l.length->w.cell? ⟨b,off+i,none⟩=some (.int .i64 (l.getD i 0))) (i:Nat):aJ w (.slice (some ⟨b,off+i,none⟩) (l.length - i) cap) (l.drop i):=by
 refine⟨_,cap,by rw[Qb],fun x hx=>dS x (List.mem_of_mem_drop hx),by rw[Qb];omega,fun _=>⟨b,off+i,rfl,fun j hj=>?_⟩⟩;rw[Qb] at hj;rw[Nat.add_assoc,hc (i+j) (by omega)];simp[Qg]
theorem aJ.take {w:World} {b off cap:Nat} {l:List Int} (dS:∀ x∈l,bn x) (hm:l.length<=9223372036854775807) (hc:∀ i,i<l.length->w.cell? ⟨b,off+i,none⟩=some (.int .i64 (l.getD i 0))) {i:Nat} (hi:i<=l.length):aJ w (.slice (some ⟨b,off,none⟩) i cap) (l.take i):=by
 have hl:(l.take i).length=i:=by rw[Qn];omega
 refine⟨_,cap,by rw[hl],fun x hx=>dS x (List.mem_of_mem_take hx),by rw[hl];omega,fun _=>⟨b,off,rfl,fun j hj=>?_⟩⟩;rw[hl] at hj;rw[hc j (by omega)];simp[Qg,hj]
theorem aJ.none_ (w:World) (ao:Option Addr) (c:Nat):aJ w (.slice ao 0 c) []:=⟨ao,c,rfl,by simp,by simp,by simp⟩
set_option maxRecDepth 100000 in
theorem Gz (v:Value) (l:List Int) (i:Nat) (w:World) (hi:i<=l.length) (hn:l.length<2147483648) (j5:nX v) (h:aJ w v l) :
  Calls Tryz.prog 151 #[v,.int .i64 i] w fun e w'=>∃ v',e=.returned v'/\ax w' w.heap.size v' (l.drop i++l.take i)/\ai [] w w':=by
 obtain⟨ao,cap,rfl,dS,hm,aO⟩:=h;obtain⟨Nr,n',eS,e,hlc,lN⟩:=j5;simp only[Qe.injEq] at e;obtain⟨rfl,rfl,rfl⟩:=e;have key:∀ (u1 u2:Value) (l1 l2:List Int),Hid (∀ wx,ai [] w wx->aJ wx u1 l1)->Hid (∀ wx,ai [] w wx->aJ wx u2 l2)->Hid (l1.length+l2.length<=l.length) ->
   ∀ (v1:Value) (w1:World),ax w1 w.heap.size v1 []->ai [] w w1->Hid (∀ b∈aL v1,w.heap.size<=b)->True:=fun _ _ _ _ _ _ _ _ _ _ _ _=>trivial
 clear key;have fin:∀ (b off:Nat),ao=some ⟨b,off,none⟩->(∀ i,i<l.length->w.cell? ⟨b,off+i,none⟩=some (.int .i64 (l.getD i 0)))->0<l.length ->
   Calls Tryz.prog 151 #[.slice ao l.length cap,.int .i64 i] w fun e w'=>∃ v',e=.returned v'/\ax w' w.heap.size v' (l.drop i++l.take i)/\ai [] w w':=by
  rintro b off rfl hc h0;have HT:=lh (fun wx (hx:ai [] w wx)=>(aJ.take (cap:=i) dS hm hc hi).fresh hx);have gH:True:=trivial;by_cases Xj:i=cap
  ·obtain rfl:i=l.length:=by omega
   obtain rfl:cap=l.length:=Xj.symm;have HD:=lh (fun wx=>aJ.none_ wx (some ⟨b,off,none⟩) 0);have yd:=lh (show l.drop l.length++l.take l.length=[]++l.take l.length by rw[List.drop_length]);rw[yd.out];have Za:=lh (show (l.take l.length).length=l.length by simp);clear dS aO hc Xj
   go_enter Tryz.func151,Tryz.ntmps151
   go_wp2_with (first
    | (at_make;refine mf rfl _ _ rfl (B:=w.heap.size) (n:=l.length) rfl rfl (Qf _) (by omega) ?_;intro v1 w1 r1 cG f1;have R1:=lh r1;have C1:=lh cG;have F1:=lh f1;clear r1 cG f1)
    | (at_builtin;have _t:=gH;refine b9 rfl _ _ rfl (B:=w.heap.size) rfl rfl R1.out (HD.out _) C1.out.size (by simp) ?_;intro v2 w2 r2 bG f2;clear gH;have R2:=lh r2;have C2:=lh (C1.out.trans bG (fun j hj=>Qc (F1.out j hj)));have F2:=lh (fun j hj=>(f2 j hj).elim (F1.out j) (Qa C1.out.size));clear r2 bG f2)
    | (at_builtin;refine b9 rfl _ _ rfl (B:=w.heap.size) rfl rfl R2.out (HT.out _ C2.out) C2.out.size (by rw[Za.out];simp;omega) ?_;intro v3 w3 r3 dB f3;have R3:=lh r3;have C3:=lh (C2.out.trans dB (fun j hj=>Qc (F2.out j hj)));clear r3 dB f3))
   go_ret;exact⟨_,rfl,R3.out,C3.out⟩
  have HD:=lh (fun wx (hx:ai [] w wx)=>(aJ.drop (cap:=cap - i) dS hm hc i).fresh hx);have FI:=lh (show ([]:List Int).length+(l.drop i).length<4294967296 by rw[Qb];simp;omega);have Za:=lh (show ([]++l.drop i).length+(l.take i).length<4294967296 by rw[Qv,Qb,Qn];omega);have lK:=lh (Qv (l.drop i));clear dS aO hc
  go_enter Tryz.func151,Tryz.ntmps151
  go_wp2_with (first
   | (at_make;refine mf rfl _ _ rfl (B:=w.heap.size) (n:=l.length) rfl rfl (Qf _) (by omega) ?_;intro v1 w1 r1 cG f1;have R1:=lh r1;have C1:=lh cG;have F1:=lh f1;clear r1 cG f1)
   | (at_builtin;have _t:=gH;refine b9 rfl _ _ rfl (B:=w.heap.size) rfl rfl R1.out (HD.out _ C1.out) C1.out.size FI.out ?_;intro v2 w2 r2 bG f2;clear gH;have R2:=lh r2;have C2:=lh (C1.out.trans bG (fun j hj=>Qc (F1.out j hj)));have F2:=lh (fun j hj=>(f2 j hj).elim (F1.out j) (Qa C1.out.size));clear r2 bG f2)
   | (at_builtin;refine b9 rfl _ _ rfl (B:=w.heap.size) rfl rfl R2.out (HT.out _ C2.out) C2.out.size Za.out ?_;intro v3 w3 r3 dB f3;have R3:=lh r3;have C3:=lh (C2.out.trans dB (fun j hj=>Qc (F2.out j hj)));clear r3 dB f3))
  go_ret;exact⟨_,rfl,by have:=R3.out;rwa[lK.out] at this,C3.out⟩
 cases l with
 | cons x r =>
  obtain⟨b,off,e,hc⟩:=aO (by simp);exact fin b off e hc (by simp)
 | nil =>
  obtain rfl:i=0:=by simpa using hi
  simp only[List.length_nil];clear fin dS aO hm hi hn hlc;have gH:True:=trivial;by_cases Kx:cap=0
  ·subst Kx
   go_enter Tryz.func151,Tryz.ntmps151
   go_wp2_with (first
    | (at_make;refine mf rfl _ _ rfl (B:=w.heap.size) (n:=0) rfl rfl (Qf _) (by omega) ?_;intro v1 w1 r1 cG f1;have R1:=lh r1;have C1:=lh cG;have F1:=lh f1;clear r1 cG f1)
    | (at_builtin;have _t:=gH;refine b9 rfl _ _ rfl (B:=w.heap.size) rfl rfl R1.out (aJ.none_ _ _ _) C1.out.size (by simp) ?_;intro v2 w2 r2 bG f2;clear gH;have R2:=lh r2;have C2:=lh (C1.out.trans bG (fun j hj=>Qc (F1.out j hj)));have F2:=lh (fun j hj=>(f2 j hj).elim (F1.out j) (Qa C1.out.size));clear r2 bG f2)
    | (at_builtin;refine b9 rfl _ _ rfl (B:=w.heap.size) rfl rfl R2.out (aJ.none_ _ _ _) C2.out.size (by simp) ?_;intro v3 w3 r3 dB f3;have R3:=lh r3;have C3:=lh (C2.out.trans dB (fun j hj=>Qc (F2.out j hj)));clear r3 dB f3))
   go_ret;exact⟨_,rfl,by have:=R3.out;simpa using this,C3.out⟩
  have ar3:¬ (0=cap):=fun e=>Kx e.symm
  go_enter Tryz.func151,Tryz.ntmps151
  go_wp2_with (first
   | (at_make;refine mf rfl _ _ rfl (B:=w.heap.size) (n:=0) rfl rfl (Qf _) (by omega) ?_;intro v1 w1 r1 cG f1;have R1:=lh r1;have C1:=lh cG;have F1:=lh f1;clear r1 cG f1)
   | (at_builtin;have _t:=gH;refine b9 rfl _ _ rfl (B:=w.heap.size) rfl rfl R1.out (aJ.none_ _ _ _) C1.out.size (by simp) ?_;intro v2 w2 r2 bG f2;clear gH;have R2:=lh r2;have C2:=lh (C1.out.trans bG (fun j hj=>Qc (F1.out j hj)));have F2:=lh (fun j hj=>(f2 j hj).elim (F1.out j) (Qa C1.out.size));clear r2 bG f2)
   | (at_builtin;refine b9 rfl _ _ rfl (B:=w.heap.size) rfl rfl R2.out (aJ.none_ _ _ _) C2.out.size (by simp) ?_;intro v3 w3 r3 dB f3;have R3:=lh r3;have C3:=lh (C2.out.trans dB (fun j hj=>Qc (F2.out j hj)));clear r3 dB f3))
  go_ret;exact⟨_,rfl,by have:=R3.out;simpa using this,C3.out⟩
theorem LY (v:Value) (l:List Int) (w:World) (hn:l.length<2147483648) (j5:nX v) (h:aJ w v l) :
  Calls Tryz.prog 100 #[v] w fun e w'=>∃ v',e=.returned v'/\ax w' w.heap.size v' (Plain.first l)/\ai [] w w':=by
 have H:=lh h;have anu:=lh j5;obtain⟨ao,cap,rfl,dS,hm,aO⟩:=h;have sD:=lh aO;clear dS aO j5
 go_enter Tryz.func100,Tryz.ntmps100
 go_wp2
 go_loopw [3,8] (fun m c wr=>∃ k:Nat,k<=l.length/\c=.int .i64 k/\m=.int .i64 (Plain.vi l k:Nat)/\ai [] w wr) (fun _ c _=>l.length - (intOf c).toNat)
 case atStart=>exact⟨0,Qx _,rfl,rfl,ai.refl _ _⟩
 case round =>
  obtain⟨k,hk,rfl,rfl,hc⟩:=hrel;have HC:=lh hc;by_cases aU:k<l.length
  ·obtain⟨b,off,rfl,pX⟩:=sD.out (by intro e;rw[e] at aU;simp at aU)
   have ql:=Plain.Iz (l:=l) (by omega) k hk;have c0:=hc.c (pX k aU);have c1:=hc.c (pX _ ql);have HL:=lh (show Plain.vi l (k+1)=if l.getD k 0<l.getD (Plain.vi l k) 0 then k else Plain.vi l k from rfl);clear pX hc;generalize Plain.vi l k=m at *;generalize l.getD k 0=x at *;generalize l.getD m 0=y at *;by_cases fW:x<y
   ·go_wp2
    go_roundw
    case rel=>exact⟨k+1,by omega,by go_num,by rw[HL.out,if_pos fW],HC.out⟩
    case measure=>simp[intOf];omega
   go_wp2
   go_roundw
   case rel=>exact⟨k+1,by omega,by go_num,by rw[HL.out,if_neg fW],HC.out⟩
   case measure=>simp[intOf];omega
  have e:k=l.length:=by omega
  subst e;have hle:=Plain.Hb l l.length;clear hc
  go_wp2_with fail
  refine (Gz _ l (Plain.vi l l.length) _ hle hn anu.out (H.out.fresh HC.out)).mono ?_;rintro e w2 ⟨v',rfl,r2,bG⟩;have R2:=lh r2;have C2:=lh bG;clear r2 bG;go_wp2;go_ret;exact⟨_,rfl,R2.out.base HC.out.size,HC.out.t C2.out⟩
theorem kj (g:Plain.Gr) (e:Nat):g.tail ((2*e:Nat):Int)=(g.ends e).1/\g.head ((2*e:Nat):Int)=(g.ends e).2:=by
 unfold Plain.Gr.tail Plain.Gr.head Plain.Gr.at;rw[if_pos (by omega),if_pos (by omega),show (((2*e:Nat):Int) / 2).toNat=e by omega];exact⟨rfl,rfl⟩
theorem lU (g:Plain.Gr) (e:Nat):g.tail ((2*e+1:Nat):Int)=(g.ends e).2/\g.head ((2*e+1:Nat):Int)=(g.ends e).1:=by
 unfold Plain.Gr.tail Plain.Gr.head Plain.Gr.at;rw[if_neg (by omega),if_neg (by omega),show (((2*e+1:Nat):Int) / 2).toNat=e by omega];exact⟨rfl,rfl⟩
theorem rF (e:Nat):Int.tmod ((2*e:Nat):Int) 2=0/\Int.tdiv ((2*e:Nat):Int) 2=(e:Int):=by
 rw[Qi (by omega),Qj (by omega)];omega
theorem vM (e:Nat):Int.tmod ((2*e+1:Nat):Int) 2=1/\Int.tdiv ((2*e+1:Nat):Int) 2=(e:Int):=by
 rw[Qi (by omega),Qj (by omega)];omega
theorem mE (v:Value) (g:Plain.Gr) (d:Nat) (w:World) (hd:d / 2<g.e.length) (hm:g.e.length<4294967296) (h:dU w v g) :
  Calls Tryz.prog 162 #[v,.int .i64 d] w fun e w'=>e=.returned (.int .i64 (g.head d))/\ai [] w w':=by
 obtain⟨eo,cap,rfl,-,-,-,aO⟩:=h;obtain⟨b,off,rfl,gy,cG⟩:=aO (d / 2) hd;have b8:=lh ((ai.refl [] w).alloc (.cells #[.int .i64 g.n,.slice (some ⟨b,off,none⟩) g.e.length cap] 24));obtain⟨e,he⟩:∃ e,d / 2=e:=⟨_,rfl⟩;rw[he] at hd gy cG;have c0:=fun o=>dC gy o;have c1:=fun o=>dC cG o;clear aO gy cG;rcases (show d=2*e\/d=2*e+1 by omega) with rfl | rfl
 ·obtain⟨q1,q2⟩:=rF e
  have HE:=lh (kj g e).2;rw[HE.out];clear he;generalize ((2*e:Nat):Int)=dd at *;generalize (g.ends e).1=x at *;generalize (g.ends e).2=y at *
  go_enter Tryz.func162,Tryz.ntmps162
  go_wp2;go_ret;exact⟨rfl,b8.out⟩
 obtain⟨q1,q2⟩:=vM e;have HE:=lh (lU g e).2;rw[HE.out];clear he;generalize ((2*e+1:Nat):Int)=dd at *;generalize (g.ends e).1=x at *;generalize (g.ends e).2=y at *
 go_enter Tryz.func162,Tryz.ntmps162
 go_wp2;go_ret;exact⟨rfl,b8.out⟩
theorem Hh (v:Value) (g:Plain.Gr) (d:Nat) (w:World) (hd:d / 2<g.e.length) (hm:g.e.length<4294967296) (h:dU w v g) :
  Calls Tryz.prog 134 #[v,.int .i64 d] w fun e w'=>e=.returned (.int .i64 (g.tail d))/\ai [] w w':=by
 obtain⟨eo,cap,rfl,-,-,-,aO⟩:=h;obtain⟨b,off,rfl,gy,cG⟩:=aO (d / 2) hd;have b8:=lh ((ai.refl [] w).alloc (.cells #[.int .i64 g.n,.slice (some ⟨b,off,none⟩) g.e.length cap] 24));obtain⟨e,he⟩:∃ e,d / 2=e:=⟨_,rfl⟩;rw[he] at hd gy cG;have c0:=fun o=>dC gy o;have c1:=fun o=>dC cG o;clear aO gy cG;rcases (show d=2*e\/d=2*e+1 by omega) with rfl | rfl
 ·obtain⟨q1,q2⟩:=rF e
  have HE:=lh (kj g e).1;rw[HE.out];clear he;generalize ((2*e:Nat):Int)=dd at *;generalize (g.ends e).1=x at *;generalize (g.ends e).2=y at *
  go_enter Tryz.func134,Tryz.ntmps134
  go_wp2;go_ret;exact⟨rfl,b8.out⟩
 obtain⟨q1,q2⟩:=vM e;have HE:=lh (lU g e).1;rw[HE.out];clear he;generalize ((2*e+1:Nat):Int)=dd at *;generalize (g.ends e).1=x at *;generalize (g.ends e).2=y at *
 go_enter Tryz.func134,Tryz.ntmps134
 go_wp2;go_ret;exact⟨rfl,b8.out⟩
end Go.Proofs.YtbkjljffnkdcjaaGreat
namespace Go.Proofs.YtbkjljffnkdcjaaGreat
open Go.RowKit Go.Maps Go.ChangeShapes
def SMap (w:World) (b n:Nat) (f:Int->List Int):Prop :=
 ∃ D:DataW Unit,w.ownsGroups Tryz.prog 3 (b+1) 3 .i64 b n D /\
  ∀ x,bn x->(f x=[]/\D.atKey (.int .i64 x) .nil=.nil)\/D.atKey (.int .i64 x) .nil=.slice (lits .i64 (f x)) []
theorem BL (w:World):(zeroValue 25).run Tryz.prog w=.ok (.slice none 0 0) w:=by kernel_rfl
theorem SMap.made (w:World):SMap (w.alloc (.map #[] 0)) w.heap.size 0 (fun _=>[]) :=
 ⟨.map [],World.ownsGroups_made _ _ _ _ _,fun _ _=>Qh ⟨rfl,rfl⟩⟩
theorem SMap.lt {w:World} {b n:Nat} {f:Int->List Int} (h:SMap w b n f):b<w.heap.size:=by
 obtain⟨D,⟨es,clock,hb,-⟩,-⟩:=h;exact (Array.getElem?_eq_some_iff.1 hb).1
theorem nI {a c:List Int} (h:(lits .i64 a:List (DataW Unit))=lits .i64 c):a=c:=by
 induction a generalizing c with
 | nil=>cases c with
  | nil=>rfl
  | cons _ _=>simp[lits] at h
 | cons x a ih=>cases c with
  | nil=>simp[lits] at h
  | cons y c =>
   simp only[lits,Ql,List.cons.injEq] at h;obtain⟨h1,h2⟩:=h;have:x=y:=by simpa using h1
   rw[this,ih h2]
theorem SMap.list {w:World} {f:Int->List Int} {D:DataW Unit} {x:Int} {v:Value} {zs:List Int} {base:Nat} (h:(f x=[]/\D.atKey (.int .i64 x) .nil=.nil)\/D.atKey (.int .i64 x) .nil=.slice (lits .i64 (f x)) []) (dN:D.atKey (.int .i64 x) .nil=rowDatum .i64 v zs) (ho:w.ownsInts base 3 .i64 v zs):zs=f x:=by
 rcases ho.datum (H:=Unit) with ⟨e,rfl⟩ | e
 ·rw[e] at dN
  rcases h with ⟨h1,_⟩ | h2
  ·exact h1.symm
  rw[dN] at h2;cases h2
 rw[e] at dN;rcases h with ⟨_,h2⟩ | h2
 ·rw[dN] at h2;cases h2
 rw[dN] at h2;simp only[DataW.slice.injEq,and_true] at h2;exact nI h2
def OG (w:World) (b n:Nat) (f:Int->List Int) (k:Int) (v:Value):Prop :=
 ∀ (w1:World) (v':Value) (x:Int),ax w1 (b+1) v' (f k++[x])->ai (aL v) w w1->(∀ j∈aL v',j∈aL v\/w.heap.size<=j) ->
  ∃ w2,(Instr.mapUpdate 101 (.map (some b)) (.int .i64 k) v').run Tryz.prog w1=.ok () w2/\SMap w2 b (n+1) (fun y=>if y=k then f k++[x] else f y)/\ai [b] w1 w2
theorem qQ {w:World} {B:Nat} {v:Value} {l:List Int} (h:w.ownsInts B 3 .i64 v l) (hn:l.length<4294967296):ax w B v l:=⟨h.1,h.2,hn⟩
theorem En {w:World} {B:Nat} {v:Value} {l:List Int} (h:ax w B v l):w.ownsInts B 3 .i64 v l:=⟨h.1,h.2.1⟩
theorem SMap.look {w:World} {b n:Nat} {f:Int->List Int} (h:SMap w b n f) (hn:n<4294967296) {k:Int} (hk:bn k) :
  ∃ v,(Instr.lookup 101 (.map (some b)) (.int .i64 k) false).run Tryz.prog w=.ok v w/\ax w (b+1) v (f k)/\(f k).length<=n/\OG w b n f k v:=by
 obtain⟨D,ho,hD⟩:=h;have kK:=keyOf_int_mk Tryz.underlying3 hk;obtain⟨v,zs,hr,dN,hoi,V6,abQ⟩:=ho.at bM Tryz.underlying101 (BL w) (by unfold maxLen;omega) kK;obtain rfl:=SMap.list (hD k hk) dN hoi;refine⟨v,hr,qQ hoi (by omega),V6,fun w1 v' x bd hc hf=>?_⟩;have hfo:aL v=v.ownBlock.toList:=(qQ hoi (by omega)).aL;have ajc:aL v'=v'.ownBlock.toList:=bd.aL;have hgr:w.grownBy w1 v.ownBlock:=hc.grownBy (fun j hj=>by rw[hfo] at hj;exact (show v.ownBlock=some j by simpa using hj).symm);obtain⟨g,c,e⟩:=cN bd.1 (by simp);have amv:v'.ownBlock=v.ownBlock\/∃ g,v'.ownBlock=some g/\w.heap.size<=g:=by
  have hb:v'.ownBlock=some g:=by rw[e];rfl
  rcases hf g (by rw[ajc,hb];simp) with q | q
  ·left
   rw[hfo] at q;rw[hb];exact (show v.ownBlock=some g by simpa using q).symm
  exact Qc ⟨g,hb,q⟩
 obtain⟨w2,cH,h2,h3⟩:=abQ w1 v' (f k++[x]) hgr (En bd) (by simp;omega) amv;refine⟨w2,cH,⟨_,h2,fun y hy=>?_⟩,(ai.refl _ _).grown h3 (fun j hj=>by cases hj;exact Qh (by simp))⟩;have am2:(rowDatum .i64 v' (f k++[x]):DataW Unit)=.slice (lits .i64 (f k++[x])) []:=(En bd).datum_pos (by simp);obtain⟨es,clock,vD,F,hs,hDe,-⟩:=ho;by_cases e1:y=k
 ·subst e1
  right;rw[atKey_put_same ⟨_,hDe⟩ (bM.key kK),am2];simp
 rw[atKey_put_other (lX e1)];simp only[if_neg e1];exact hD y hy
section
variable {ops : Array Oper} {rest : List Oper} {o : Oper} {a : Act} {Q : Exit -> Act -> World -> Prop} {w : World}
theorem xn (hg:o.guard=none) (m x:Operand) (kU:o.op=Op.lookup 101 m x false) {b n:Nat} {f:Int->List Int} (h:SMap w b n f) (hn:n<4294967296) (hm:a.eval m=.map (some b)) {k:Int} (hk:bn k) (hx:a.eval x=.int .i64 k)
  (hK:∀ v,ax w (b+1) v (f k)->(f k).length<=n->OG w b n f k v->wpList Tryz.prog ops Q rest (a.put o.dst v) w):wpList Tryz.prog ops Q (o :: rest) a w:=by
 refine wpList_plain hg fun K' uM=>?_;obtain⟨v,gC,r1,r2,r3⟩:=h.look hn hk;unfold Oper.wp;simp[execOp,kU,hm,hx,gC,Result.andThen];exact uM _ _ (hK v r1 r2 r3)
theorem wM {w0:World} (hg:o.guard=none) (m x u:Operand) (kU:o.op=Op.mapUpdate 101 m x u) {b n:Nat} {f:Int->List Int} {k z:Int} {v v':Value} (hb:OG w0 b n f k v) (hm:a.eval m=.map (some b)) (hx:a.eval x=.int .i64 k) (hu:a.eval u=v')
  (bd:ax w (b+1) v' (f k++[z])) (hc:ai (aL v) w0 w) (hf:∀ j∈aL v',j∈aL v\/w0.heap.size<=j)
  (hK:∀ w2,SMap w2 b (n+1) (fun y=>if y=k then f k++[z] else f y)->ai [b] w w2->wpList Tryz.prog ops Q rest (a.put o.dst undef) w2):wpList Tryz.prog ops Q (o :: rest) a w:=by
 refine wpList_plain hg fun K' uM=>?_;obtain⟨w2,gC,r1,r2⟩:=hb w v' z bd hc hf;unfold Oper.wp;simp[execOp,kU,hm,hx,hu,gC,Result.andThen];exact uM _ _ (hK w2 r1 r2)
end
end Go.Proofs.YtbkjljffnkdcjaaGreat
namespace Go.Proofs.YtbkjljffnkdcjaaGreat
open Go.RowKit Go.Maps
namespace Plain
def outs (g:Gr) (p:Pt) (k:Nat) (v:Int):List Int:=(Pt.ag ⟨[],p.e.take k⟩).filter fun d=>decide (g.tail d=v)
theorem zJ (g:Gr) (p:Pt):outs g p 0=fun _=>[]:=by funext v;simp[outs,Pt.ag]
theorem Mq {g:Gr} {p:Pt} {k e:Nat} (hk:k<p.e.length) (he:p.e.getD k 0=(e:Int)) :
  outs g p (k+1)=fun v=>outs g p k v++((if (g.ends e).1=v then [2*(e:Int)] else [])++(if (g.ends e).2=v then [2*(e:Int)+1] else [])):=by
 funext v
 have e1:p.e.take (k+1)=p.e.take k++[(e:Int)]:=by
  rw[List.take_succ_eq_append_getElem hk,<-he];simp[Qg,hk]
 unfold outs Pt.ag;rw[e1,List.flatMap_append,List.filter_append]
 congr 1
 have h1:g.tail (2*(e:Int))=(g.ends e).1:=by have:=(kj g e).1;simpa using this
 have h2:g.tail (2*(e:Int)+1)=(g.ends e).2:=by have:=(lU g e).1;simpa using this
 simp only[List.flatMap_cons,List.flatMap_nil,List.append_nil,List.filter_cons,List.filter_nil,h1,h2,decide_eq_true_eq];split <;> split <;> rfl
theorem CR (g:Gr) (p:Pt) (v:Int):outs g p p.e.length v=p.ag.filter fun d=>decide (g.tail d=v):=by
 unfold outs;rw[List.take_length];rfl
end Plain
theorem CC (g:Plain.Gr) (p:Plain.Pt) (k:Nat) (v:Int):(Plain.outs g p k v).length<=2*k:=by
 unfold Plain.outs;refine Qa (List.length_filter_le _ _) ?_;rw[Plain.cw];simp only[Qn];omega
theorem Tf (f:Int->List Int) (a z s t:Int):(fun y=>if y=z then (if z=a then f a++[s] else f z)++[t] else (if y=a then f a++[s] else f y))=fun v=>f v++((if a=v then [s] else [])++(if z=v then [t] else [])):=by
 funext y
 by_cases h1:y=z
 ·subst h1
  by_cases h2:y=a
  ·subst h2;simp
  simp[h2,Ne.symm h2]
 by_cases h2:y=a
 ·subst h2;simp[h1,Ne.symm h1]
 simp[h1,h2,Ne.symm h1,Ne.symm h2]
theorem gP (w:World) {x:Int} (hx:bn x):aJ (w.alloc (.cells #[.int .i64 x] 3)) (.slice (some ⟨w.heap.size,0,none⟩) 1 1) [x]:=by
 refine⟨_,1,rfl,by simpa using hx,by simp,fun _=>⟨w.heap.size,0,rfl,fun i hi=>?_⟩⟩;have:i=0:=by simpa using hi
 subst this;rw[cell_of_row _ _ _ _ _ _ (heap_alloc_new w _)];rfl
set_option maxHeartbeats 2000000 in
theorem tZ (vg vp:Value) (g:Plain.Gr) (p:Plain.Pt) (w:World) (pO:p.e.length<=1000000) (hr:p.err g=0) (hg:dU w vg g) (hp:gD w vp p) :
  Calls Tryz.prog 159 #[vg,vp] w fun e w'=>∃ b,e=.returned (.map (some b))/\SMap w' b (2*p.e.length) (fun v=>p.ag.filter fun d=>decide (g.tail d=v))/\ai [] w w'/\w.heap.size<=b:=by
 obtain⟨zt,UM,Fy,-⟩:=Plain.Pt.aP hr;obtain⟨hn0,y8,nz,dm⟩:=Plain.Gr.aP zt;have uV:=lh Fy;obtain⟨eo,cap,rfl,hn,hm,dS,aO⟩:=hg;obtain⟨v1,v2,rfl,hv,he⟩:=hp;obtain⟨ao,ac,rfl,-,-,-⟩:=hv;obtain⟨bo,bc,rfl,la,vD,bT⟩:=he;have sD:=lh aO;have Ci:=lh bT;have ir:=lh dS;have nq:=@run_makeMap Tryz.prog;obtain⟨eG,fh,cG⟩:=dq w #[.int .i64 g.n,.slice eo g.e.length cap] #[.slice ao p.v.length ac,.slice bo p.e.length bc] 24 27;have x1:=(cell_of_row _ _ 1 _ _ _ eG).trans (show _=some (Qe eo g.e.length cap) from rfl);have y1:=(cell_of_row _ _ 1 _ _ _ fh).trans (show _=some (Qe bo p.e.length bc) from rfl);have X1:=lh x1;have Y1:=lh y1;have b8:=lh cG;clear aO bT dS dm Fy UM zt hr la hn eG fh cG x1;have HM:=lh (SMap.made ((w.alloc (.cells #[.int .i64 g.n,.slice eo g.e.length cap] 24)).alloc (.cells #[.slice ao p.v.length ac,.slice bo p.e.length bc] 27)));have y1n:=fun o=>dC y1 o
 go_enter Tryz.func159,Tryz.ntmps159
 go_wp2;clear nq y1 y1n;have di:((w.alloc (.cells #[.int .i64 g.n,.slice eo g.e.length cap] 24)).alloc (.cells #[.slice ao p.v.length ac,.slice bo p.e.length bc] 27)).heap.size=w.heap.size+1+1:=by simp
 rw[di] at HM;generalize sA:((w.alloc (.cells #[.int .i64 g.n,.slice eo g.e.length cap] 24)).alloc (.cells #[.slice ao p.v.length ac,.slice bo p.e.length bc] 27))=w1 at *;clear sA;obtain⟨mb,Jy⟩:∃ mb,w.heap.size+1+1=mb:=⟨_,rfl⟩;rw[Jy] at HM di ⊢;have Cj:w.heap.size<=mb:=by omega
 generalize w.heap.size+1=pb at *;generalize RY:w.heap.size=gb at *
 go_loopw [14] (fun c wr=>∃ k:Nat,k<=p.e.length/\c=.int .i64 k/\ai [] w1 wr/\SMap wr mb (2*k) (Plain.outs g p k)) (fun c _=>p.e.length - (intOf c).toNat)
 case atStart=>exact⟨0,Qx _,rfl,(ai.refl [] w1).alloc _,by rw[Plain.zJ];exact HM.out⟩
 case round =>
  obtain⟨k,hk,rfl,hc,dS⟩:=hrel;have HC:=lh hc;have HS:=lh dS;by_cases aU:k<p.e.length
  ·obtain⟨bb,rh,rfl,rR⟩:=Ci.out (by intro e;rw[e] at aU;simp at aU)
   have ce:=hc.c (b8.out.c (rR k aU));have Fy:=Plain.ct uV.out aU;obtain⟨ei,vG⟩:∃ ei:Nat,p.e.getD k 0=(ei:Int):=⟨(p.e.getD k 0).toNat,by omega⟩;have HO:=lh (Plain.Mq (g:=g) aU vG);rw[vG] at ce Fy;have xO:ei<g.e.length:=by omega
   have aby:(ei:Int)<=1024:=by omega
   obtain⟨eb,eB,rfl,gy,cG⟩:=sD.out ei xO;obtain⟨z1,z2⟩:=ir.out ei xO;have C0:=lh (b8.out.c gy);have C1:=lh (b8.out.c cG);clear rR hc Fy vG gy cG dS;generalize (g.ends ei).1=x at *;generalize (g.ends ei).2=y at *;go_wp2;clear ce;have aD:(fun w':World=>w'.cell? ⟨gb,1,none⟩=some (.slice (some ⟨eb,eB,none⟩) g.e.length cap)/\w'.cell? ⟨eb,eB+ei*2,none⟩=some (.int .i64 x)/\w'.cell? ⟨eb,eB+ei*2+1,none⟩=some (.int .i64 y)) wr.drew:=⟨HC.out.drew.c X1.out,HC.out.drew.c C0.out,HC.out.drew.c C1.out⟩;refine au (fun w':World=>w'.cell? ⟨gb,1,none⟩=some (.slice (some ⟨eb,eB,none⟩) g.e.length cap)/\w'.cell? ⟨eb,eB+ei*2,none⟩=some (.int .i64 x)/\w'.cell? ⟨eb,eB+ei*2+1,none⟩=some (.int .i64 y)) [0,1,2,3,4,5,6,7,8,9,10,11,12,13] (Way.line [0,1,2,3,4,5,6,7,8,9,10,11,12,13] .done) (by kernel_rfl) (by kernel_rfl) ?_;simp only[Way.line]
   repeat
    first
     | (refine ar rfl (by rfl) (by rfl) (fun _ _ _ h=>h) aD ?_;simp only[Qy,Z1,Z2,Z3,Z4,Z5,Z6])
     | (refine aq (v:=?_) rfl (by rfl) (by rfl) (fun _ _ _ h=>h) aD (fun w' aK=>?_) ?_;rotate_left;(focus ((try dsimp only at aK);go_simp;try with_reducible rfl));simp only[Qy,Z1,Z2,Z3,Z4,Z5,Z6])
     | (refine ak rfl (by rfl) (by rfl) aD ?_;simp only[Qy,Z1,Z2,Z3,Z4,Z5,Z6])
   refine aB ?_;clear aD;have uQ:=lh (show SMap wr.drew mb (2*k) (Plain.outs g p k) from HS.out);have cA:=lh HC.out.drew;have I1:bn (2*(ei:Int)):=bn.mk (by omega) (by omega);have I2:bn (2*(ei:Int)+1):=bn.mk (by omega) (by omega);generalize wr.drew=wd at *;have Jq:=lh (fun v=>CC g p k v);generalize Plain.outs g p k=f0 at *;have uW:=lh di;have gH:True:=trivial;have adD:True:=trivial;have aeq:True:=trivial;clear HS HC di
   go_wp2_with (first
    | (at_lookup;have _t:=gH;refine xn rfl _ _ rfl uQ.out (by omega) rfl z1 rfl ?_;intro v1 r1 l1 b1;clear gH;have R1:=lh r1;have B1:=lh b1;clear r1 l1 b1)
    | (at_builtin;have _t:=adD;refine b9 rfl _ _ rfl (B:=mb+1) rfl rfl (R1.out.aM ((ai.refl [] _).alloc _) (by simp)) (gP _ I1) (by have:=uQ.out.lt;simp;omega) (by have:=Jq.out x;simp;omega) ?_;intro u1 w2 q1 c1 f1;clear adD;have Q1:=lh q1;have D1:=lh (((ai.refl (aL v1) wd).alloc (.cells #[.int .i64 (2*(ei:Int))] 3)).trans c1 (fun j hj=>Qh hj));have F1:=lh (fun j hj=>(f1 j hj).imp id (fun h=>Qa ((ai.refl [] wd).alloc (.cells #[.int .i64 (2*(ei:Int))] 3)).size h));clear q1 c1 f1)
    | (at_mapUpdate;have _t:=aeq;refine wM rfl _ _ _ rfl B1.out rfl rfl rfl Q1.out D1.out F1.out ?_;intro w3 s3 d3;clear aeq;have S3:=lh s3;have D3:=lh d3;clear s3 d3)
    | (at_lookup;refine xn rfl _ _ rfl S3.out (by omega) rfl z2 rfl ?_;intro v4 r4 l4 b4;have R4:=lh r4;have L4:=lh l4;have B4:=lh b4;clear r4 l4 b4)
    | (at_builtin;refine b9 rfl _ _ rfl (B:=mb+1) rfl rfl (R4.out.aM ((ai.refl [] _).alloc _) (by simp)) (gP _ I2) (by have:=S3.out.lt;simp;omega) (by have:=L4.out;simp;omega) ?_;intro u5 w5 q5 c5 f5;have Q5:=lh q5;have D5:=lh (((ai.refl (aL v4) w3).alloc (.cells #[.int .i64 (2*(ei:Int)+1)] 3)).trans c5 (fun j hj=>Qh hj));have F5:=lh (fun j hj=>(f5 j hj).imp id (fun h=>Qa ((ai.refl [] w3).alloc (.cells #[.int .i64 (2*(ei:Int)+1)] 3)).size h));clear q5 c5 f5)
    | (at_mapUpdate;refine wM rfl _ _ _ rfl B4.out rfl rfl rfl Q5.out D5.out F5.out ?_;intro w6 s6 d6;have S6:=lh s6;have D6:=lh d6;clear s6 d6))
   have Hm:∀ j∈aL v1,w1.heap.size<=j:=fun j hj=>by have:=(R1.out.low j (by rw[<-R1.out.aL];exact hj)).1;have:=uW.out;omega
   have Ts:∀ j∈aL v4,w1.heap.size<=j:=fun j hj=>by have:=(R4.out.low j (by rw[<-R4.out.aL];exact hj)).1;have:=uW.out;omega
   have Zk:∀ j∈[mb],j∈([]:List Nat)\/w1.heap.size<=j:=fun j hj=>Qc (by have:=uW.out;simp at hj;omega);have ni:=lh ((((cA.out.trans D1.out (fun j hj=>Qc (Hm j hj))).trans D3.out Zk).trans D5.out (fun j hj=>Qc (Ts j hj))).trans D6.out Zk);have HS6:=lh (show SMap w6 mb (2*(k+1)) (Plain.outs g p (k+1)) by rw[HO.out,<-Tf f0 x y];exact S6.out);clear Hm Ts Zk;go_wp2
   go_roundw
   case rel=>exact⟨k+1,by omega,by go_num,ni.out,HS6.out⟩
   case measure=>simp[intOf];omega
  have e:k=p.e.length:=by omega
  subst e;have HF:=lh (show SMap wr mb (2*p.e.length) (fun v=>p.ag.filter fun d=>decide (g.tail d=v)) by have:=HS.out;rwa[show Plain.outs g p p.e.length=fun v=>p.ag.filter fun d=>decide (g.tail d=v) from funext (Plain.CR g p)] at this);clear dS hc;go_wp2;go_ret;exact⟨mb,rfl,HF.out,b8.out.t HC.out,by rw[RY];exact Cj⟩
end Go.Proofs.YtbkjljffnkdcjaaGreat
