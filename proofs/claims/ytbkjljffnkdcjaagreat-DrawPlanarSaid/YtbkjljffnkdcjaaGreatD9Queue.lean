/- package walk: contracts of the queue's two closures. Conditions: the variable that holds the queue lies in memory and reads so. -/
import Derived.Test.YtbkjljffnkdcjaaGreatD9Row
import Derived.ArgAppend
import Derived.Deep.LoopGhost
open Or renaming inl→Qa,inr→Qc
open Go.Value renaming ownBlock→Qb,slice→Qm,int→Qp
open List renaming filter_cons_of_neg→Qd,filter_cons_of_pos→Qe,mem_filter→Qf,length_cons→Qh,getD→Qi,mem_cons→Qk,mem_append→Qn
open Nat renaming le_trans→Qg,le_refl→Qo
open Go.World renaming frozen?→Qj,ownsInts_nil→Ql
namespace Go.Proofs.YtbkjljffnkdcjaaGreat
open Go.RowKit Go.Maps
def jG (w:World) (H:Nat) (v:Value) (q:List Int):Prop :=
 (∀ x∈q,bn x)/\q.length<4294967296 /\
 ((v=.slice none 0 0/\q=[])\/∃ g off cap cur,v=.slice (some ⟨g,off,none⟩) q.length cap/\H<=g/\w.heap[g]?=some (.cells cur 3 (0,0))/\q.length<=cap/\cap<=9223372036854775807/\off+cap<=cur.size /\
  ∀ i,i<q.length->cur[off+i]?=some (.int .i64 (q.getD i 0)))
theorem jG.aM {w w':World} {H:Nat} {v:Value} {q:List Int} {own:List Nat} (h:jG w H v q) (hc:ai own w w') (hn:∀ b∈v.ownBlock.toList,b ∉ own):jG w' H v q:=by
 obtain⟨h1,h2,h3⟩:=h;refine⟨h1,h2,h3.imp id ?_⟩;rintro ⟨g,off,cap,cur,rfl,k1,k2,k3⟩;exact⟨g,off,cap,cur,rfl,k1,hc.heap k2 (hn g (by simp[Qb])),k3⟩
theorem jG.sV {w:World} {H:Nat} {v:Value} {q:List Int} (h:ax w H v q):jG w H v q:=by
 refine⟨h.2.1,h.2.2,?_⟩;rcases h.1.2 with ⟨rfl,h0⟩ | ⟨g,cap,cur,rfl,hg,hh,tI,lN,jQ,Sm⟩
 ·exact Qa ⟨rfl,List.length_eq_zero_iff.1 h0⟩
 refine Qc ⟨g,0,cap,cur,rfl,hg,hh,tI,lN,by omega,fun i hi=>?_⟩;have q1:(ints q)[i]?=some (.int .i64 (q.getD i 0)):=by simp[ints,Qi,hi]
 rw[<-Sm,List.getElem?_take,if_pos (by omega)] at q1;rw[Nat.zero_add];simpa using q1
theorem Z0 {w:World} {g off:Nat} {cur:Array Value} {q:List Int} (hh:w.heap[g]?=some (.cells cur 3 (0,0))) (hq:∀ i,i<q.length->cur[off+i]?=some (.int .i64 (q.getD i 0))):∀ j u,(ints q)[j]?=some u->w.cell? ⟨g,off+j,none⟩=some u:=by
 intro j u hj;have sH:j<q.length:=by have:=(List.getElem?_eq_some_iff.1 hj).1;simpa[ints] using this
 rw[cell_of_row w g (off+j) cur _ _ hh,hq j sH,<-hj];simp[ints,Qi,sH]
theorem Of {w:World} {H:Nat} {v:Value} {q:List Int} {x:Int} (hq:jG w H v q) (hx:bn x) (hH:H<=w.heap.size) (hn:q.length+1<4294967296) (ty:TypeId) :
  ∃ v' w',(Builtin.append_ #[25,25] ty #[v,.slice (some ⟨w.heap.size,0,none⟩) 1 1]).run Tryz.prog (w.alloc (.cells #[.int .i64 x] 3))=.ok v' w'/\jG w' H v' (q++[x])/\ai v.ownBlock.toList w w':=by
 obtain⟨h1,h2,h3⟩:=hq;have qt:ai [] w (w.alloc (.cells #[.int .i64 x] 3)):=(ai.refl [] w).alloc _;have di:(w.alloc (.cells #[.int .i64 x] 3)).heap.size=w.heap.size+1:=by simp
 obtain⟨i0,hi,Dl,jZ,pF⟩:=info_parts cJ.hi;have tK:∀ y∈q++[x],bn y:=fun y hy=>(Qn.1 hy).elim (h1 y) (fun e=>by simp at e;subst e;exact hx);have hlen:(q++[x]).length<4294967296:=by simp;omega
 have tJ:∀ j u,[Qp .i64 x][j]?=some u->(w.alloc (.cells #[.int .i64 x] 3)).cell? ((⟨w.heap.size,0,none⟩:Addr).add j)=some u:=cell_one_new w _ _;rcases h3 with ⟨rfl,rfl⟩ | ⟨g,off,cap,cur,rfl,hg,hh,tI,lN,hoc,jQ⟩
 ·obtain⟨g,c,w',hr,r1,r2,-⟩:=rM cJ (w0:=w) (B:=H) (v:=.slice none 0 0) (n:=0) (xs:=[]) (World.ownsRow_nil _ _ _ _) hH (cs:=#[.int .i64 x]) rfl (OO x) (by omega) (Qa rfl) ty
  exact⟨_,w',hr,jG.sV ⟨by simpa[ints] using r1,by simpa using hx,by simp⟩,r2⟩
 have hh1:=qt.heap hh (by simp);by_cases acP:q.length+1<=cap
 ·have hr:=run_append_room_cells (P:=Tryz.prog) (w.alloc (.cells #[.int .i64 x] 3)) 25 ty 3 i0 cJ.ht hi g off q.length cap ⟨w.heap.size,0,none⟩ 1 1 [.int .i64 x] (by rw[jZ];rfl) tJ (by intro u hu;simp at hu;subst hu;rfl) acP
   (fun j hj=>by
    have:j=0:=by simpa using hj
    subst this;have aU:off+q.length<cur.size:=by omega
    rw[jZ,cell_of_row _ g _ cur _ _ hh1];simp[aU])
   (fun j hj=>by simp[Qj,hh1])
  rw[jZ,Nat.mul_one] at hr;have bw:(w.alloc (.cells #[.int .i64 x] 3)).setCells g (off+q.length) [.int .i64 x]=(w.alloc (.cells #[.int .i64 x] 3)).setCell ⟨g,off+q.length,none⟩ (.int .i64 x):=rfl;rw[bw] at hr;refine⟨_,_,hr,⟨tK,hlen,Qc ⟨g,off,cap,cur.setIfInBounds (off+q.length) (.int .i64 x),by simp,hg,heap_setCell_same hh1 _ _,by simp;omega,lN,by simpa using hoc,fun i hi=>?_⟩⟩,?_⟩
  ·by_cases e:i=q.length
   ·subst e
    simp[Qi,show off+q.length<cur.size by omega]
   have uT:i<q.length:=by simp at hi;omega
   rw[Array.getElem?_setIfInBounds_ne (by omega),jQ i uT];simp[Qi,uT,List.getElem?_append_left uT]
  exact ((ai.refl _ w).alloc _).setCell (Qa (by simp[Qb])) _
 have hold:∀ j u,(ints q)[j]?=some u->(w.alloc (.cells #[.int .i64 x] 3)).cell? ((⟨g,off,none⟩:Addr).add j)=some u:=by
  intro j u hj;rw[Addr.add_lit];exact Z0 hh1 jQ j u hj
 obtain⟨v',w',hr,r1,r2⟩:=run_append_arg_grows (P:=Tryz.prog) (w.alloc (.cells #[.int .i64 x] 3)) 25 ty 3 i0 (.int .i64 0) 1 8 cJ.ht hi Dl jZ pF cJ.hz cJ.h0 ⟨g,off,none⟩ q.length cap (ints q) (by simp[ints]) hold ⟨w.heap.size,0,none⟩ 1 1 [.int .i64 x] rfl tJ (by omega) (by unfold maxLen;omega) (by omega);have bd:ax w' (w.heap.size+1) v' (q++[x]):=⟨by rw[List.length_append];rw[di] at r1;simpa[ints] using r1,tK,hlen⟩;exact⟨v',w',hr,jG.sV (bd.base (by omega)),(((ai.refl [] w).alloc _).grown r2 (by simp)).mono (by simp)⟩
theorem JX {ops:Array Oper} {rest:List Oper} {o:Oper} {a:Act} {Q:Exit->Act->World->Prop} {w:World} (hg:o.guard=none) (s x:Operand) (ho:o.op=.call { callee:=.builtin .append,args:=#[s,x],argTypes:=#[25,25] })
  {H:Nat} {v:Value} {q:List Int} {z:Int} (hs:a.eval s=v) (hx:a.eval x=.slice (some ⟨w.heap.size,0,none⟩) 1 1) (hq:jG w H v q) (hz:bn z) (hH:H<=w.heap.size) (hn:q.length+1<4294967296)
  (hK:∀ v' w',jG w' H v' (q++[z])->ai v.ownBlock.toList w w'->wpList Tryz.prog ops Q rest (a.put o.dst v') w'):wpList Tryz.prog ops Q (o :: rest) a (w.alloc (.cells #[.int .i64 z] 3)):=by
 refine wpList_plain hg fun K uM=>?_;obtain⟨v',w',hr,r1,r2⟩:=Of hq hz hH hn o.type;unfold Oper.wp execOp;simp only[ho,resolve,invoke,builtin,Sem.run_bind,Sem.run_pure,Result.andThen_ok,List.map_toArray,List.map_cons,List.map_nil,hs,hx,hr];exact uM _ _ (hK v' w' r1 r2)
def Mt (w:World) (B H:Nat) (q:List Int):Prop:=∃ v,w.heap[B]?=some (.cells #[v] 25 (0,0))/\jG w H v q/\H<=B
def Lt (w:World) (H:Nat) (own:List Nat):Prop:=∀ j∈own,H<=j/\∃ cs t r,w.heap[j]?=some (.cells cs t r)/\(t=3\/t=25)
theorem jG.own {w:World} {H:Nat} {v:Value} {q:List Int} (h:jG w H v q):Lt w H v.ownBlock.toList:=by
 intro j hj;rcases h.2.2 with ⟨rfl,-⟩ | ⟨g,off,cap,cur,rfl,hg,hh,-⟩
 ·simp[Qb] at hj
 simp[Qb] at hj;subst hj;exact⟨hg,cur,_,_,hh,Qa rfl⟩
theorem jG.shape {w:World} {H:Nat} {v:Value} {q:List Int} (h:jG w H v q):∃ ao c,v=.slice ao q.length c:=by
 rcases h.2.2 with ⟨rfl,rfl⟩ | ⟨g,off,cap,cur,rfl,-⟩
 ·exact⟨_,_,rfl⟩
 exact⟨_,_,rfl⟩
theorem jG.ne {w:World} {H B:Nat} {v:Value} {q:List Int} {cs:Array Value} {r:Nat × Nat} (h:jG w H v q) (hb:w.heap[B]?=some (.cells cs 25 r)):∀ j∈v.ownBlock.toList,j≠B:=by
 intro j hj e;subst e;rcases h.2.2 with ⟨rfl,-⟩ | ⟨g,off,cap,cur,rfl,hg,hh,-⟩
 ·simp[Qb] at hj
 simp[Qb] at hj;subst hj;rw[hb] at hh;simp at hh
theorem Mt.aM {w w':World} {B H:Nat} {q:List Int} {own:List Nat} (h:Mt w B H q) (hc:ai own w w') (hn:∀ j∈own,∀ cs t r,w.heap[j]?≠some (.cells cs t r)):Mt w' B H q:=by
 obtain⟨v,hb,hq,hH⟩:=h;refine⟨v,hc.heap hb (fun e=>hn B e _ _ _ hb),hq.aM hc (fun j hj e=>?_),hH⟩;obtain⟨-,cs,t,r,hh,-⟩:=hq.own j hj;exact hn j e _ _ _ hh
theorem qW (B H:Nat) (q:List Int) (x:Int) (w:World) (hx:bn x) (hH:H<=w.heap.size) (hn:q.length+1<4294967296) (h:Mt w B H q) :
  Calls Tryz.prog 211 #[.int .i64 x,.pointer (some ⟨B,0,none⟩)] w fun e w'=>e=.returned (.tuple #[])/\Mt w' B H (q++[x])/\∃ own,Lt w H own/\ai own w w':=by
 obtain⟨v,hb,hq,hHB⟩:=h;have c0:w.cell? ⟨B,0,none⟩=some v:=by rw[cell_of_row _ _ _ _ _ _ hb];rfl
 have z0:w.frozen? ⟨B,0,none⟩=false:=by simp[Qj,hb]
 have lK:=lh (hq.ne hb);have qO:Hid (Lt w H (B :: v.ownBlock.toList)):=by
  intro j hj;rcases Qk.1 hj with rfl | hj
  ·exact⟨hHB,_,_,_,hb,Qc rfl⟩
  exact hq.own j hj
 obtain⟨ao,c,rfl⟩:=hq.shape;have HQ:=lh hq;have HB:=lh hb;have HZ:=lh z0;have A6:=lh c0;clear hq hb
 go_enter Tryz.func211,Tryz.ntmps211
 go_wp2_with (at_builtin;refine JX rfl _ _ rfl rfl rfl HQ.out hx hH hn ?_;intro v' w1 r1 c1;have NB:B ∉ (Qm ao q.length c).ownBlock.toList:=fun e=>lK.out B e rfl;have k0:=c1.cell A6.out NB;have kz:=c1.frozen A6.out HZ.out NB;have KB:=lh (c1.heap HB.out NB);obtain⟨Nr,c',rfl⟩:=r1.shape;have R1:=lh r1;have C1:=lh c1;clear r1 c1 NB)
 refine bodyPost_end (v:=.tuple #[]) (by simp[results,Tryz.results211,go_sem]) rfl ⟨rfl,⟨_,heap_setCell_same KB.out 0 _,?_,hHB⟩,_,qO.out,?_⟩
 ·have hr:=R1.out.aM ((ai.refl [B] w1).setCell (p:=⟨B,0,none⟩) (Qa (by simp)) (.slice Nr (q++[x]).length c')) (fun b hb=>by simpa using R1.out.ne KB.out b hb)
  simpa using hr
 exact ((show ai (Qm ao q.length c).ownBlock.toList w w1 from C1.out).mono (fun j hj=>Qa (List.mem_cons_of_mem _ hj))).setCell (Qa (by simp)) _
theorem wu (B H:Nat) (w:World) (h:Mt w B H []) :
  Calls Tryz.prog 212 #[.pointer (some ⟨B,0,none⟩)] w fun e w'=>e=.returned (.tuple #[.int .i64 0,.bool false])/\w=w':=by
 obtain⟨v,hb,hq,hHB⟩:=h;have c0:w.cell? ⟨B,0,none⟩=some v:=by rw[cell_of_row _ _ _ _ _ _ hb];rfl
 obtain⟨ao,c,rfl⟩:=hq.shape;rw[List.length_nil] at c0;clear hq hb
 go_enter Tryz.func212,Tryz.ntmps212
 go_wp2;exact bodyPost_ret (v:=.tuple #[.int .i64 0,.bool false]) (by simp[results,Tryz.results212,go_sem]) rfl ⟨rfl,rfl⟩
theorem mB (B H:Nat) (x:Int) (q:List Int) (w:World) (h:Mt w B H (x :: q)) :
  Calls Tryz.prog 212 #[.pointer (some ⟨B,0,none⟩)] w fun e w'=>e=.returned (.tuple #[.int .i64 x,.bool true])/\Mt w' B H q/\∃ own,Lt w H own/\ai own w w':=by
 obtain⟨v,hb,hq,hHB⟩:=h;have c0:w.cell? ⟨B,0,none⟩=some v:=by rw[cell_of_row _ _ _ _ _ _ hb];rfl
 have z0:w.frozen? ⟨B,0,none⟩=false:=by simp[Qj,hb]
 have lK:=hq.ne hb;have qO:Hid (Lt w H [B]):=by
  intro j hj;simp at hj;subst hj;exact⟨hHB,_,_,_,hb,Qc rfl⟩
 obtain⟨h1,h2,h3⟩:=hq;rcases h3 with ⟨-,e⟩ | ⟨g,off,cap,cur,rfl,hg,hh,tI,lN,hoc,jQ⟩
 ·cases e
 have hgB:g≠B:=lK g (by simp[Qb]);have ch:w.cell? ⟨g,off,none⟩=some (.int .i64 x):=by
  rw[cell_of_row w g off cur _ _ hh];have:=jQ 0 (by simp);simpa using this
 simp only[Qh] at c0 tI h2;have fin:∀ ti eS,Hid (ti+eS<=cur.size/\q.length<=eS/\eS<=9223372036854775807/\∀ i,i<q.length->cur[ti+i]?=some (.int .i64 (q.getD i 0)))->Hid (Mt (w.setCell ⟨B,0,none⟩ (.slice (some ⟨g,ti,none⟩) q.length eS)) B H q):=by
  intro ti eS hk;obtain⟨k1,k2,k3,k4⟩:=hk.out;refine lh ⟨_,heap_setCell_same hb 0 _,⟨fun y hy=>h1 y (by simp[hy]),by omega,Qc ⟨g,ti,eS,cur,rfl,hg,?_,k2,k3,k1,k4⟩⟩,hHB⟩;exact ((ai.refl [B] w).setCell (p:=⟨B,0,none⟩) (Qa (by simp)) (.slice (some ⟨g,ti,none⟩) q.length eS)).heap hh (by simpa using hgB)
 have Ij:(0:Int)<((q.length+1:Nat):Int):=by omega
 have FD:(((q.length+1:Nat):Int)==0)=false:=by rw[beq_eq_false_iff_ne];omega
 have EU:q.length+1 - 1=q.length:=by omega
 by_cases j5:1=cap
 ·subst j5
  have hq0:q.length=0:=by omega
  have HF:=fin off 0 (lh ⟨by omega,by omega,by omega,fun i hi=>by omega⟩);clear fin hb hh jQ lK h1 hg
  go_enter Tryz.func212,Tryz.ntmps212
  go_wp2;refine bodyPost_ret (v:=.tuple #[.int .i64 x,.bool true]) (by simp[results,Tryz.results212,go_sem]) rfl ⟨rfl,?_,[B],qO.out,(ai.refl _ w).setCell (Qa (by simp)) _⟩;have qg:=HF.out;rw[hq0] at qg;exact qg
 have HF:=fin (off+1) (cap - 1) (lh ⟨by omega,by omega,by omega,fun i hi=>by
  have:=jQ (i+1) (by simp;omega);rw[show off+1+i=off+(i+1) by omega,this];simp⟩)
 clear fin hb hh jQ lK h1 hg
 go_enter Tryz.func212,Tryz.ntmps212
 go_wp2;refine bodyPost_ret (v:=.tuple #[.int .i64 x,.bool true]) (by simp[results,Tryz.results212,go_sem]) rfl ⟨rfl,HF.out,[B],qO.out,(ai.refl _ w).setCell (Qa (by simp)) _⟩
theorem Af (w:World) :
  Calls Tryz.prog 200 #[] w fun e w'=>e=.returned (.tuple #[.func (.func 211) #[] #[.pointer (some ⟨w.heap.size,0,none⟩)],.func (.func 212) #[] #[.pointer (some ⟨w.heap.size,0,none⟩)]])/\Mt w' w.heap.size w.heap.size []/\ai [] w w':=by
 have hmf:∀ (fn:Fn) (first cap:Array Value) (w:World),(Instr.makeFunc fn first cap).run Tryz.prog w=.ok (.func fn first cap) w:=fun _ _ _ _=>rfl;have HQ:Hid (Mt (w.alloc (.cells #[.slice none 0 0] 25)) w.heap.size w.heap.size []):=⟨_,heap_alloc_new w _,⟨by simp,by simp,Qa ⟨rfl,rfl⟩⟩,Qo _⟩;have HC:=lh ((ai.refl [] w).alloc (.cells #[.slice none 0 0] 25))
 go_enter Tryz.func200,Tryz.ntmps200
 go_wp2;refine bodyPost_ret (v:=.tuple #[.func (.func 211) #[] #[.pointer (some ⟨w.heap.size,0,none⟩)],.func (.func 212) #[] #[.pointer (some ⟨w.heap.size,0,none⟩)]]) (by simp[results,Tryz.results200,go_sem]) rfl ⟨rfl,HQ.out,HC.out⟩
end Go.Proofs.YtbkjljffnkdcjaaGreat
namespace Go.Proofs.YtbkjljffnkdcjaaGreat.Plain
def left (p:Pt) (f:Int->Option Int):Nat:=(p.v.filter fun u=>(f u).isNone).length
theorem rS {p:Pt} {f:Int->Option Int} {x c:Int} (hn:p.v.Nodup) (hx:x∈p.v) (hf:f x=none):left p (fun y=>if y=x then some c else f y)+1=left p f:=by
 unfold left;generalize p.v=l at *;have none_:∀ {l:List Int},x ∉ l->(l.filter fun u=>(if u=x then some c else f u).isNone)=l.filter fun u=>(f u).isNone:=by
  intro l hl;refine List.filter_congr fun u hu=>?_;rw[if_neg (fun e=>hl (by rw[<-e];exact hu))]
 induction l with
 | nil=>simp at hx
 | cons y l ih =>
  rw[List.nodup_cons] at hn;by_cases e:y=x
  ·subst e
   rw[Qd (by simp),Qe (by simp[hf]),none_ hn.1];rfl
  have hx':x∈l:=(Qk.1 hx).resolve_left (fun q=>e q.symm);have:=ih hn.2 hx';cases hy:f y with
  | none=>rw[Qe (by simp[e,hy]),Qe (by simp[hy]),Qh,Qh];omega
  | some z=>rw[Qd (by simp[e,hy]),Qd (by simp[hy])];exact this
structure LJ (g:Gr) (p:Pt) (shut a:Int) (f:Int->Option Int) (m:Nat):Prop where
 base:f a≠none
 U9:∀ u,f u≠none->bP g p shut a u
 OT:∀ u,f u≠none->u∈p.v
 val:∀ u c,f u=some c->0<=c/\c+(left p f:Int)<=p.v.length
 dK:m+left p f<=p.v.length
def Kn (g:Gr) (p:Pt) (shut:Int) (f:Int->Option Int) (u:Int):Prop:=∀ x,qF g p u x->x≠shut->f x≠none
theorem LJ.start {g:Gr} {p:Pt} {shut a:Int} (hp:aH g p) (ha:a∈p.v):LJ g p shut a (fun y=>if y=a then some 0 else none) (0+1):=by
 have hl:=rS (f:=fun _=>none) (c:=0) hp.vn ha rfl;have h0:left p (fun _=>none)=p.v.length:=by unfold left;rw[List.filter_eq_self.2 (by simp)]
 refine⟨by simp,fun u hu=>?_,fun u hu=>?_,fun u c hu=>?_,by omega⟩
 ·by_cases e:u=a
  ·subst e;exact .here
  simp[e] at hu
 ·by_cases e:u=a
  ·subst e;exact ha
  simp[e] at hu
 by_cases e:u=a
 ·simp[e] at hu;subst hu;omega
 simp[e] at hu
theorem LJ.add {g:Gr} {p:Pt} {shut a v x c:Int} {f:Int->Option Int} {m:Nat} (h:LJ g p shut a f m) (hp:aH g p) (hx:x∈p.v) (hn:qF g p v x) (hs:x≠shut) (hv:f v=some c) (hf:f x=none):LJ g p shut a (fun y=>if y=x then some (c+1) else f y) (m+1):=by
 have hl:=rS (f:=f) (c:=c+1) hp.vn hx hf;have hc:=h.val v c hv;have hm:=h.dK;refine⟨?_,fun u hu=>?_,fun u hu=>?_,fun u d hu=>?_,by omega⟩
 ·show (if a=x then some (c+1) else f a)≠none
  by_cases e:a=x
  ·simp[e]
  rw[if_neg e];exact h.base
 ·by_cases e:u=x
  ·subst e;exact (h.U9 v (by rw[hv];simp)).step hn hs
  exact h.U9 u (by simpa[e] using hu)
 ·by_cases e:u=x
  ·subst e;exact hx
  exact h.OT u (by simpa[e] using hu)
 by_cases e:u=x
 ·simp[e] at hu;subst hu;omega
 have:=h.val u d (by simpa[e] using hu);omega
theorem Kn.add {g:Gr} {p:Pt} {shut u x c:Int} {f:Int->Option Int} (h:Kn g p shut f u):Kn g p shut (fun y=>if y=x then some c else f y) u:=by
 intro z hz hs;show (if z=x then some c else f z)≠none;by_cases e:z=x
 ·simp[e]
 rw[if_neg e];exact h z hz hs
theorem CT {g:Gr} {p:Pt} (_hp:aH g p) {u x:Int}:qF g p u x↔∃ d∈p.ag.filter fun d=>decide (g.tail d=u),g.head d=x:=by
 constructor
 ·rintro ⟨e,he,h | h⟩
  ·have h1:=dV g e
   refine⟨2*e,Qf.2 ⟨aw.2 (by rwa[show 2*e / 2=e by omega]),?_⟩,?_⟩
   ·rw[h1.1,h];simp
   rw[h1.2,h]
  have hd:2*e∈p.ag:=aw.2 (by rwa[show 2*e / 2=e by omega]);have h1:=dV g e;refine⟨aE (2*e),Qf.2 ⟨bu hd,?_⟩,?_⟩
  ·rw[aA,h1.2,h];simp
  rw[<-aA,aS,h1.1,h]
 rintro ⟨d,hd,rfl⟩;obtain⟨h1,h2⟩:=Qf.1 hd;have h2:g.tail d=u:=by simpa using h2
 rw[<-h2];exact eK h1
theorem LJ.all {g:Gr} {p:Pt} {shut a:Int} {f:Int->Option Int} {m:Nat} (h:LJ g p shut a f m) (hd:∀ u,f u≠none->Kn g p shut f u) (v:Int):f v≠none↔bP g p shut a v:=by
 refine⟨h.U9 v,fun hc=>?_⟩
 induction hc with
 | here=>exact h.base
 | step _ hn hs ih=>exact hd _ ih _ hn hs
end Go.Proofs.YtbkjljffnkdcjaaGreat.Plain
namespace Go.Proofs.YtbkjljffnkdcjaaGreat
open Go.RowKit Go.Maps
theorem SMap.fresh {w w':World} {b n:Nat} {f:Int->List Int} (h:SMap w b n f) (hc:ai [] w w'):SMap w' b n f:=by
 obtain⟨D,ho,hD⟩:=h;refine⟨D,?_,hD⟩;have hb:b<w.heap.size:=SMap.lt ⟨D,ho,hD⟩;exact ho.kept (hc.grownBy (row:=none) (by simp)) (by simp) (fun es clock he x hx=>by cases x.val.ownBlock <;> simp)
set_option maxHeartbeats 2000000 in
theorem bN.TP {w:World} {b n:Nat} {f:Int->Option Int} (h:bN w b n f) (hn:n<maxLen) {k v:Int} (hk:bn k) (hv:bn v) :
  ∃ w',(Instr.mapUpdate 124 (.map (some b)) (.int .i64 k) (.int .i64 v)).run Tryz.prog w=.ok () w'/\bN w' b (n+1) (fun y=>if y=k then some v else f y)/\w.grownBy w' (some b):=by
 obtain⟨D,bL,hD⟩:=h;obtain⟨w',hr,h1,h2⟩:=bL.update bM Tryz.underlying124 hn (keyOf_int_mk Tryz.underlying3 hk) (plainElem_int Tryz.underlying3 hv);refine⟨w',hr,⟨_,h1,fun y hy=>?_⟩,h2⟩;by_cases e:y=k
 ·subst e
  have qN:=bM.key (keyOf_int_mk Tryz.underlying3 hk);rw[has_put_same bL.isMap qN,atKey_put_same bL.isMap qN];simp
 rw[has_put_other (lX e),atKey_put_other (lX e)];simp only[if_neg e];exact hD y hy
theorem tq {ops:Array Oper} {rest:List Oper} {o:Oper} {a:Act} {Q:Exit->Act->World->Prop} {w:World} (hg:o.guard=none) (m x u:Operand) (kU:o.op=Op.insert 124 m x u) {b n:Nat} {f:Int->Option Int} (h:bN w b n f) (hn:n<maxLen) (hm:a.eval m=.map (some b))
  {k v:Int} (hk:bn k) (hv:bn v) (hx:a.eval x=.int .i64 k) (hu:a.eval u=.int .i64 v)
  (hK:∀ w',bN w' b (n+1) (fun y=>if y=k then some v else f y)->w.grownBy w' (some b)->wpList Tryz.prog ops Q rest (a.put o.dst undef) w'):wpList Tryz.prog ops Q (o :: rest) a w:=by
 refine wpList_plain hg fun K uM=>?_;obtain⟨w',hr,h1,h2⟩:=h.TP hn hk hv;have Cg:=uM (a.put o.dst undef) w' (hK w' h1 h2);unfold Oper.wp;simp[execOp,kU,hm,hx,hu,hr,Result.andThen,Oper.upon];exact Cg
theorem SMap.Ct {w wr:World} {b n:Nat} {f:Int->List Int} (h:SMap w b n f) (hc:ai [] w wr) (hn:n<4294967296) {k:Int} (hk:bn k) :
  ∃ v,(Instr.lookup 101 (.map (some b)) (.int .i64 k) false).run Tryz.prog wr=.ok v wr/\ax w (b+1) v (f k):=by
 obtain⟨D,ho,hD⟩:=h;have kK:=keyOf_int_mk Tryz.underlying3 hk;obtain⟨es,clock,hb,F,hs,hDe,Sj,hlen,jE⟩:=ho;have Cc:=hc.heap hb (by simp);rcases Maps.fit_look false bM Tryz.underlying101 (BL wr) Cc F kK with ⟨gC,_,dN⟩ | ⟨e0,y,Sg,h3,gC,hR,dN,_⟩
 ·refine⟨_,gC,?_⟩
  have Ej:=dN .nil;rw[<-hDe] at Ej;have e:=SMap.list (v:=.slice none 0 0) (zs:=[]) (hD k hk) Ej (Ql w (b+1) 3 .i64);rw[<-e];exact qQ (Ql _ _ _ _) (by simp)
 obtain⟨zs,hoi,rfl⟩:=rowElem_inv hR;have Ej:=dN .nil;rw[<-hDe] at Ej;have e:=SMap.list (hD k hk) Ej hoi;subst e;exact⟨_,gC,qQ hoi (by have:=hlen e0 Sg _ hoi;omega)⟩
theorem oG {ops:Array Oper} {rest:List Oper} {o:Oper} {a:Act} {Q:Exit->Act->World->Prop} {w0 w:World} (hg:o.guard=none) (m x:Operand) (kU:o.op=Op.lookup 101 m x false) {b n:Nat} {f:Int->List Int} (h:SMap w0 b n f) (hc:ai [] w0 w) (hn:n<4294967296) (hm:a.eval m=.map (some b)) {k:Int} (hk:bn k) (hx:a.eval x=.int .i64 k)
  (hK:∀ v,ax w0 (b+1) v (f k)->wpList Tryz.prog ops Q rest (a.put o.dst v) w):wpList Tryz.prog ops Q (o :: rest) a w:=by
 refine wpList_plain hg fun K' uM=>?_;obtain⟨v,gC,r1⟩:=h.Ct hc hn hk;unfold Oper.wp;simp[execOp,kU,hm,hx,gC,Result.andThen];exact uM _ _ (hK v r1)
structure om (w:World) (gb mp H:Nat) (gv:Array Value) (f:Int->Option Int) (m:Nat) (q:List Int) (wr:World):Prop where
 queue:Mt wr H H q
 aM:ai [] w wr
 map:bN wr mp m f
 box:wr.heap[gb]?=some (.cells gv 24 (0,0))
section
variable {w wr w' : World} {gb mp H : Nat} {gv : Array Value} {f f' : Int -> Option Int} {m m' : Nat} {q q' : List Int}
theorem om.aa (h:om w gb mp H gv f m q wr) (hH:w.heap.size<=H) {own:List Nat} (hq:Mt w' H H q') (ho:Lt wr H own) (hc:ai own wr w'):om w gb mp H gv f m q' w':=by
 refine⟨hq,h.aM.trans hc (fun j hj=>Qc (Qg hH (ho j hj).1)),h.map.aM hc (fun e=>?_),hc.heap h.box (fun e=>?_)⟩
 ·obtain⟨_,cs,t,r,hh,_⟩:=ho _ e
  exact h.map.ne hh rfl
 obtain⟨_,cs,t,r,hh,ht⟩:=ho _ e;rw[h.box] at hh;simp at hh;obtain⟨_,e2,_⟩:=hh;rcases ht with q | q <;> (rw[<-e2] at q;revert q;decide)
theorem om.fresh (h:om w gb mp H gv f m q wr) (hc:ai [] wr w'):om w gb mp H gv f m q w' :=
 ⟨h.queue.aM hc (by simp),h.aM.t hc,h.map.aM hc (by simp),hc.heap h.box (by simp)⟩
theorem om.met (h:om w gb mp H gv f m q wr) (FA:w.heap.size<=mp) (hm:bN w' mp m' f') (hg:wr.grownBy w' (some mp)):om w gb mp H gv f' m' q w':=by
 have hc:ai [mp] wr w':=(ai.refl _ _).grown hg (fun j hj=>by cases hj;exact Qa (by simp));refine⟨h.queue.aM hc (fun j hj cs t r hh=>?_),h.aM.trans hc (fun j hj=>Qc (by simp at hj;omega)),hm,hc.heap h.box (fun e=>?_)⟩
 ·simp at hj
  subst hj;exact h.map.ne hh rfl
 simp at e;exact h.map.ne h.box e
end
def BP (g:Plain.Gr) (p:Plain.Pt) (shut a:Int) (f:Int->Option Int) (m:Nat) (t:List Int) (fuel:Nat):Prop :=
 Plain.LJ g p shut a f m/\(∀ u∈t,f u≠none)/\(∀ u,f u≠none->u∈t\/Plain.Kn g p shut f u)/\2*Plain.left p f+t.length<=fuel
def BO (g:Plain.Gr) (p:Plain.Pt) (shut a:Int) (f:Int->Option Int) (m:Nat) (v:Int) (q L:List Int) (k fuel:Nat):Prop :=
 Plain.LJ g p shut a f m/\f v≠none/\(∀ u∈q,f u≠none)/\(∀ u,f u≠none->u=v\/u∈q\/Plain.Kn g p shut f u)/\2*Plain.left p f+q.length+1<=fuel/\∀ i,i<k->g.head (L.getD i 0)=shut\/f (g.head (L.getD i 0))≠none
theorem BP.inner {g:Plain.Gr} {p:Plain.Pt} {shut a v:Int} {f:Int->Option Int} {m fuel:Nat} {q:List Int} (h:BP g p shut a f m (v :: q) fuel) (L:List Int):BO g p shut a f m v q L 0 fuel:=by
 obtain⟨h1,h2,h3,h4⟩:=h;refine⟨h1,h2 v (by simp),fun u hu=>h2 u (by simp[hu]),fun u hu=>?_,by simp at h4;omega,by simp⟩;rcases h3 u hu with q | q
 ·rcases Qk.1 q with q | q
  ·exact Qa q
  exact Qc (Qa q)
 exact Qc (Qc q)
theorem BO.outer {g:Plain.Gr} {p:Plain.Pt} (hp:Plain.aH g p) {shut a v:Int} {f:Int->Option Int} {m fuel:Nat} {q:List Int} (h:BO g p shut a f m v q (p.ag.filter fun d=>decide (g.tail d=v)) (p.ag.filter fun d=>decide (g.tail d=v)).length fuel):BP g p shut a f m q (fuel - 1):=by
 obtain⟨h1,h2,h3,h4,h5,h6⟩:=h;refine⟨h1,h3,fun u hu=>?_,by omega⟩;rcases h4 u hu with e | e | e
 ·subst e
  right;intro x hx hs;obtain⟨d,hd,rfl⟩:=(Plain.CT hp).1 hx;obtain⟨i,hi,rfl⟩:=Plain.bO hd;exact (h6 i hi).resolve_left hs
 ·exact Qa e
 exact Qc e
theorem BO.skip {g:Plain.Gr} {p:Plain.Pt} {shut a v:Int} {f:Int->Option Int} {m fuel k:Nat} {q L:List Int} (h:BO g p shut a f m v q L k fuel) (hk:g.head (L.getD k 0)=shut\/f (g.head (L.getD k 0))≠none):BO g p shut a f m v q L (k+1) fuel:=by
 obtain⟨h1,h2,h3,h4,h5,h6⟩:=h;refine⟨h1,h2,h3,h4,h5,fun i hi=>?_⟩;by_cases e:i=k
 ·subst e;exact hk
 exact h6 i (by omega)
theorem BO.add {g:Plain.Gr} {p:Plain.Pt} (hp:Plain.aH g p) {shut a v x c:Int} {f:Int->Option Int} {m fuel k:Nat} {q L:List Int} (h:BO g p shut a f m v q L k fuel) (hk:g.head (L.getD k 0)=x) (hx:x∈p.v) (hn:Plain.qF g p v x) (hs:x≠shut) (hv:f v=some c) (hf:f x=none) :
  BO g p shut a (fun y=>if y=x then some (c+1) else f y) (m+1) v (q++[x]) L (k+1) fuel:=by
 obtain⟨h1,h2,h3,h4,h5,h6⟩:=h;have hl:=Plain.rS (f:=f) (c:=c+1) hp.vn hx hf;have up:∀ u,f u≠none->(if u=x then some (c+1) else f u)≠none:=fun u hu=>by by_cases e:u=x <;> simp[e];simpa[e] using hu
 refine⟨h1.add hp hx hn hs hv hf,up v h2,fun u hu=>?_,fun u hu=>?_,by simp;omega,fun i hi=>?_⟩
 ·rcases Qn.1 hu with q | q
  ·exact up u (h3 u q)
  simp at q;subst q;simp
 ·by_cases e:u=x
  ·exact Qc (Qa (by simp[e]))
  rcases h4 u (by simpa[e] using hu) with q | q | q
  ·exact Qa q
  ·exact Qc (Qa (by simp[q]))
  exact Qc (Qc q.add)
 by_cases e:i=k
 ·subst e;right;rw[hk];simp
 exact (h6 i (by omega)).imp id (up _)
set_option maxRecDepth 100000 in
set_option maxHeartbeats 2000000 in
theorem Kq (vg:Value) (g:Plain.Gr) (p:Plain.Pt) (mb n:Nat) (a shut:Int) (w:World) (hn:n<1000000) (_hV:p.v.length<=1000000) (hr:p.err g=0) (ha:a∈p.v) (WS:bn a) (_hs:bn shut) (hg:dU w vg g) (hd:SMap w mb n (fun v=>p.ag.filter fun d=>decide (g.tail d=v))) :
  Calls Tryz.prog 160 #[vg,.map (some mb),.int .i64 a,.int .i64 shut] w fun e w'=>∃ b m f,e=.returned (.map (some b))/\bN w' b m f/\(∀ v,f v≠none↔Plain.bP g p shut a v)/\ai [] w w'/\w.heap.size<=b/\m<=p.v.length:=by
 obtain⟨eo,cap,rfl,gL,hm,dS,aO⟩:=id hg;have HG:=lh hg;have HSD:=lh hd;have nq:=@run_makeMap Tryz.prog;have HM:=lh (bN.made (w.alloc (.cells #[.int .i64 g.n,.slice eo g.e.length cap] 24)));have A6:=lh ((ai.refl [] w).alloc (.cells #[.int .i64 g.n,.slice eo g.e.length cap] 24));have DL:=lh (heap_alloc_new w (.cells #[.int .i64 g.n,.slice eo g.e.length cap] 24 (0,0)));clear aO dS hg hd gL;have y5:(w.alloc (.cells #[.int .i64 g.n,.slice eo g.e.length cap] 24)).heap.size=w.heap.size+1:=by simp
 rw[y5] at HM;have XJ:=lh y5;clear y5
 go_enter Tryz.func160,Tryz.ntmps160
 go_wp2_with (refine tq rfl _ _ _ rfl HM.out (by unfold maxLen;omega) rfl WS (bn.mk (by omega) (by omega)) rfl rfl ?_;intro w2 jS Cp;have mD:=lh jS;have FJ:=lh Cp;clear jS Cp)
 have cA:=lh (((A6.out.alloc (.map #[] 0)).grown FJ.out (row:=some (w.heap.size+1)) (fun k hk=>by cases hk;exact Qc (by omega))));have Rz:=lh (show w2.heap[w.heap.size]?=some (.cells #[.int .i64 g.n,.slice eo g.e.length cap] 24 (0,0)) from ((ai.refl [w.heap.size+1] _).grown FJ.out (row:=some (w.heap.size+1)) (fun k hk=>by cases hk;exact Qa (by simp))).heap (((ai.refl [] _).alloc (.map #[] 0)).heap DL.out (by simp)) (by simp));clear HM FJ DL nq XJ;refine (Af w2).mono ?_;rintro e w3 ⟨rfl,Xa,dB⟩;have Nh:=lh Xa;have dD:=lh (cA.out.t dB);have M4:=lh (mD.out.aM dB (by simp));have GA:=lh (dB.heap Rz.out (by simp));have HH:=lh dB.size;have Nt:=lh cA.out.size;clear Xa dB mD Rz cA A6;generalize hHe:w2.heap.size=H at *
 go_wp2_with fail
 refine (qW H H [] a w3 WS HH.out (by simp) Nh.out).mono ?_;rintro e w4 ⟨rfl,hq4,own4,ho4,iW⟩;have HQ4:=lh hq4;have kh:=lh (dD.out.trans iW (fun j hj=>Qc (Qg Nt.out (ho4 j hj).1)));have nm4:w.heap.size+1 ∉ own4:=fun e=>by obtain⟨_,cs,t,r,hh,_⟩:=ho4 _ e;exact M4.out.ne hh rfl
 have ng4:w.heap.size ∉ own4:=fun e=>by obtain⟨_,cs,t,r,hh,ht⟩:=ho4 _ e;rw[GA.out] at hh;simp at hh;obtain⟨_,e2,_⟩:=hh;rcases ht with q | q <;> (rw[<-e2] at q;revert q;decide)
 have YR:=lh (M4.out.aM iW nm4);have Ge:=lh (iW.heap GA.out ng4);clear hq4 ho4 iW nm4 ng4 M4 GA dD Nh
 go_wp2_with fail
 refine (mB H H a [] w4 HQ4.out).mono ?_;rintro e w5 ⟨rfl,hq5,own5,GL,gV⟩;have Sd:=lh hq5;have iP:=lh (kh.out.trans gV (fun j hj=>Qc (Qg Nt.out (GL j hj).1)));have nm5:w.heap.size+1 ∉ own5:=fun e=>by obtain⟨_,cs,t,r,hh,_⟩:=GL _ e;exact YR.out.ne hh rfl
 have ng5:w.heap.size ∉ own5:=fun e=>by obtain⟨_,cs,t,r,hh,ht⟩:=GL _ e;rw[Ge.out] at hh;simp at hh;obtain⟨_,e2,_⟩:=hh;rcases ht with q | q <;> (rw[<-e2] at q;revert q;decide)
 have Jm:=lh (YR.out.aM gV nm5);have NW:=lh (gV.heap Ge.out ng5);clear hq5 GL gV nm5 ng5 YR Ge kh HQ4;go_wp2;have sy:=lh (Plain.Pt.aF hr);have Jf:=lh (Plain.jI (Plain.Pt.aP hr).2.1);have j7:=lh (Plain.Gr.aP (Plain.Pt.aP hr).1);have uV:=lh (Plain.Pt.aP hr).2.2.1;have HAV:=lh ha;have wR:=lh (om.mk (w:=w) (gb:=w.heap.size) (mp:=w.heap.size+1) (H:=H) Sd.out iP.out Jm.out NW.out);have ze:=lh (show BP g p shut a (fun y=>if y=a then some 0 else none) (0+1) [a] (2*p.v.length+2) from⟨Plain.LJ.start sy.out ha,by simp,fun u hu=>Qa (by by_cases e:u=a <;> simp[e] at hu ⊢),by have:=(Plain.LJ.start (g:=g) (shut:=shut) sy.out ha).dK;simp;omega⟩);have T6:=lh (show w.heap.size<=w.heap.size+1 by omega);have xP:∀ u∈p.v,0<=u/\u<1025:=fun u hu=>by have:=sy.out.vr u hu;have:=j7.out.2.1;omega
 have gA:=lh xP;clear hr ha Sd iP Jm NW hHe xP;generalize RY:w.heap.size=gb at *;generalize FA:gb+1=mp at *;have DL:=lh RY;have wP:=lh FA;clear RY FA
 go_loopg [12,13] (2*p.v.length+2) (fun fuel Jz TK wr=>Hid (fuel<=2*p.v.length+2)/\∃ f m,(∃ v q,Jz=.int .i64 v/\TK=.bool true/\om w gb mp H #[.int .i64 g.n,.slice eo g.e.length cap] f m q wr/\Hid (BP g p shut a f m (v :: q) fuel))\/(Jz=.int .i64 0/\TK=.bool false/\om w gb mp H #[.int .i64 g.n,.slice eo g.e.length cap] f m [] wr/\Hid (BP g p shut a f m [] fuel)))
 case atStart=>exact⟨lh (Qo _),_,_,Qa ⟨a,[],rfl,rfl,wR.out,ze⟩⟩
 case round =>
  obtain⟨ym,f,m,⟨v,q,rfl,rfl,cV,eQ⟩ | ⟨rfl,rfl,cV,eQ⟩⟩:=hrel
  ·have sS:=lh cV
   have NS:=eQ.out.1.OT v (eQ.out.2.1 v (by simp));have hvs:=gA.out v NS;have WA:bn v:=bn.mk (by omega) (by omega);have Fj:=lh cV.aM;clear cV NS
   go_wp2_with (at_lookup;refine oG rfl _ _ rfl HSD.out Fj.out (by omega) rfl WA rfl ?_;intro vv r0;obtain⟨vo,vc,rfl⟩:=r0.shape;have R0:=lh r0;clear r0)
   have Yc:=lh (eQ.out.inner (p.ag.filter fun d=>decide (g.tail d=v)));have Vx:=lh (show ∀ d∈p.ag.filter fun d=>decide (g.tail d=v),d∈p.ag/\g.tail d=v from fun d hd=>by have:=Qf.1 hd;exact⟨this.1,by simpa using this.2⟩);have Gt:=lh (fun (f':Int->Option Int) (m':Nat) (q':List Int) (h:BO g p shut a f' m' v q' (p.ag.filter fun d=>decide (g.tail d=v)) (p.ag.filter fun d=>decide (g.tail d=v)).length gk)=>BO.outer sy.out h);clear eQ;generalize (p.ag.filter fun d=>decide (g.tail d=v))=L at *;have hLL:L.length<4294967296:=R0.out.2.2
   go_loopw [44] (fun c wr=>∃ k:Nat,k<=L.length/\c=.int .i64 k/\∃ f m q,om w gb mp H #[.int .i64 g.n,.slice eo g.e.length cap] f m q wr/\Hid (BO g p shut a f m v q L k gk)) (fun c _=>L.length - (intOf c).toNat)
   case atStart=>exact⟨0,Nat.zero_le _,rfl,f,m,q,sS.out,Yc⟩
   case round =>
    obtain⟨k,hk,rfl,f1,m1,q1,cV,dM⟩:=hrel;have lZ:=lh cV;by_cases aU:k<L.length
    ·obtain⟨gr,hvo,tQ⟩:=R0.out.some (by omega)
     subst hvo;have ck:=cV.aM.c (tQ k aU);have x0:=(cell_of_row _ _ 0 _ _ _ cV.box).trans (show _=some (Qp .i64 g.n) from rfl);have x1:=(cell_of_row _ _ 1 _ _ _ cV.box).trans (show _=some (Qm eo g.e.length cap) from rfl);obtain⟨mj,yN⟩:=Vx.out (L.getD k 0) (by simp[Qi,aU]);have yQ:=(sy.out.aQ mj).2;have tK:=gA.out _ yQ;have ru:bn (g.head (L.getD k 0)):=bn.mk (by omega) (by omega);have kM:=Plain.eK (g:=g) mj;rw[yN] at kM;obtain⟨ee,sC,Hp⟩:∃ ee:Nat,ee<g.e.length/\L.getD k 0 / 2=(ee:Int):=by
      obtain⟨i,hi,e⟩:=Plain.bO (Plain.aw.1 mj);have:=Plain.ct uV.out hi;exact⟨(L.getD k 0 / 2).toNat,by omega,by omega⟩
     obtain⟨dn,nv⟩:∃ dn:Nat,L.getD k 0=(dn:Int):=⟨(L.getD k 0).toNat,by omega⟩;have Zg:dn / 2<g.e.length:=by omega
     have PG:g.e.length<4294967296:=by have:=j7.out.2.2.1;have:=j7.out.1;omega
     have GU:=lh (fun h=>BO.skip (k:=k) dM.out h);have HAD:=lh (fun c hs hv hf=>BO.add (x:=g.head (L.getD k 0)) (c:=c) sy.out dM.out rfl yQ kM hs hv hf);have GS:=lh dM.out.1.dK;have Gc:=lh dM.out.1.val;have yd:=lh dM.out.2.2.2.2.1;obtain⟨cv,yI⟩:=Option.ne_none_iff_exists'.1 dM.out.2.1;have HCV:=lh yI;obtain⟨xx,Rm⟩:∃ xx,g.head (L.getD k 0)=xx:=⟨_,rfl⟩;have HHD:=lh (show g.head (dn:Int)=xx by rw[<-nv];exact Rm);rw[Rm] at GU HAD ru;rw[nv] at ck;have rT:=lh sC;clear tQ mj yN yQ tK kM Hp nv Rm dM yI sC
     go_wp2_with fail
     refine (mE _ g dn _ Zg PG (HG.out.fresh lZ.out.aM)).mono ?_;rw[HHD.out];rintro e w6 ⟨rfl,hc6⟩;have yg:=lh (lZ.out.fresh hc6);clear hc6 cV ck x0 x1;cases mi:f1 xx with
     | some c0 =>
      have HF:=lh mi;have HR:=lh (GU.out (Qc (by rw[mi];simp)));clear mi
      go_wp2_with (at_lookup;refine eT _ rfl _ _ rfl yg.out.map rfl ru rfl HF ?_)
      go_roundw
      case rel=>exact⟨k+1,by omega,by go_num,f1,m1,q1,yg.out,HR⟩
      case measure=>simp[intOf];omega
     | none =>
      have HF:=lh mi;by_cases Mv:xx=shut
      ·have HR:=lh (GU.out (Qa Mv))
       have hb:(xx==shut)=true:=by rw[beq_iff_eq];exact Mv
       clear mi Mv
       go_wp2_with (at_lookup;refine dw _ rfl _ _ rfl yg.out.map rfl ru rfl HF ?_)
       go_roundw
       case rel=>exact⟨k+1,by omega,by go_num,f1,m1,q1,yg.out,HR⟩
       case measure=>simp[intOf];omega
      have HR:=lh (HAD.out cv Mv HCV.out mi);have hb:(xx==shut)=false:=by rw[beq_eq_false_iff_ne];exact Mv
      have uO:=Gc.out v cv HCV.out;have am8:0<=cv/\cv<=1000000:=by omega
      have mh:m1<1000001:=by have:=GS.out;omega
      have Lu:q1.length+1<4294967296:=by have:=yd.out;have:=ym.out;omega
      have HGV:=lh (show (f1 v).getD 0=cv by rw[HCV.out];rfl);have Xj:bn (cv+1):=bn.mk (by omega) (by omega);have gH:True:=trivial;clear mi Mv uO
      go_wp2_with (first
       | (at_lookup;have _t:=gH;refine dw _ rfl _ _ rfl yg.out.map rfl ru rfl HF ?_;clear gH)
       | (at_lookup;refine kd _ rfl _ _ rfl yg.out.map rfl WA rfl HGV ?_)
       | (at_mapUpdate;refine iG _ rfl _ _ _ rfl yg.out.map (by unfold maxLen;omega) rfl ru Xj rfl rfl ?_;intro w7 JI Kd;have Ee:=lh (yg.out.met (by rw[DL.out];exact T6.out) JI Kd);clear JI Kd))
      have hH7:H<=w7.heap.size:=by obtain⟨_,U1,_⟩:=Ee.out.queue;exact Nat.le_of_lt (lt_of_block U1)
      refine (qW H H q1 xx w7 ru hH7 Lu Ee.out.queue).mono ?_;rintro e w8 ⟨rfl,hq8,own8,ho8,hc8⟩;have S4:=lh (Ee.out.aa (by rw[DL.out];exact Nt.out) hq8 ho8 hc8);clear hq8 ho8 hc8;go_wp2
      go_roundw
      case rel=>exact⟨k+1,by omega,by go_num,_,_,_,S4.out,HR⟩
      case measure=>simp[intOf];omega
    have e:k=L.length:=by omega
    subst e;have HO:=lh (Gt.out f1 m1 q1 dM.out);have W7:=lh dM.out.2.2.2.2.1;clear cV dM;cases q1 with
    | nil =>
     go_wp2_with fail
     refine (wu H H _ lZ.out.queue).mono ?_;rintro e w8 ⟨rfl,rfl⟩;go_wp2
     go_roundg (gk - 1)
     case measure=>have:=W7.out;omega
     case rel=>exact⟨lh (Qg (Nat.sub_le _ _) ym.out),f1,m1,Qc ⟨rfl,rfl,lZ.out,HO⟩⟩
    | cons x r =>
     go_wp2_with fail
     refine (mB H H x r _ lZ.out.queue).mono ?_;rintro e w8 ⟨rfl,hq8,own8,ho8,hc8⟩;have S4:=lh (lZ.out.aa (by rw[DL.out];exact Nt.out) hq8 ho8 hc8);clear hq8 ho8 hc8;go_wp2
     go_roundg (gk - 1)
     case measure=>have:=W7.out;omega
     case rel=>exact⟨lh (Qg (Nat.sub_le _ _) ym.out),f1,m1,Qa ⟨x,r,rfl,rfl,S4.out,HO⟩⟩
  have sS:=lh cV;have Zn:=lh (show m<=p.v.length by have:=eQ.out.1.dK;omega);have Le:=lh (fun x=>eQ.out.1.all (fun u hu=>((eQ.out.2.2.1 u hu).resolve_left (by simp))) x);clear cV eQ;go_wp2;go_ret;exact⟨mp,m,f,rfl,sS.out.map,Le.out,sS.out.aM,by rw[DL.out];exact T6.out,Zn.out⟩
end Go.Proofs.YtbkjljffnkdcjaaGreat
