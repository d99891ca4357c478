/- ref04.Twin, ref06.Step, ref06.Next: contracts. Conditions: a right part, right turns that lie in memory and read so; a MB of the part. -/
import Derived.Test.YtbkjljffnkdcjaaGreatD9RefQ
open Classical renaming byContradiction→Qa
open Nat renaming le_refl→Qb
open Go.Act renaming put→Qc
open List renaming take_length→Qd,range→Qe
namespace Go.Proofs.YtbkjljffnkdcjaaGreat
open Go.RowKit Go.Maps
end Go.Proofs.YtbkjljffnkdcjaaGreat
namespace Go.Proofs.YtbkjljffnkdcjaaGreat
namespace Plain
structure amV (g:Gr) (p:Pt) (aa same:List (List Int)):Prop where
 part:p.err g=0
 turns:aT g p aa
 flat:Flat g p aa
 walks:fC g p aa (iI g p aa)
 two:∀ l∈same,2<=l.length
 nodup:same.flatten.Nodup
 keys:∀ x∈same.flatten,x∈(iI g p aa).map (·.1)
 ase:∀ l∈same,l.Pairwise (·<·)
 many:same.flatten.length+1<=(roots g p).length+same.length\/(roots g p).length=0
noncomputable def S' (g:Gr) (p:Pt) (aa same:List (List Int)):List (List Int):=same++TY (iI g p aa) same.flatten
structure YW (g:Gr) (p:Pt) (aa same ll:List (List Int)):Prop where
 perm:ll.Perm (S' g p aa same)
 order:ll.Pairwise fun a b=>a.getD 0 0<=b.getD 0 0
open Classical in
noncomputable def MK (g:Gr) (p:Pt) (aa same:List (List Int)):List (List Int):=if h:∃ ll,YW g p aa same ll then Classical.choose h else []
def N5 (ll:List (List Int)) (key:Int):Option Nat:=ll.findIdx? fun l=>decide (key∈l)
end Plain
end Go.Proofs.YtbkjljffnkdcjaaGreat
namespace Go.Proofs.YtbkjljffnkdcjaaGreat
open Go.RowKit Go.Maps
theorem sv (v:Value) (l:List Int) (x:Int) (w:World) (h:aJ w v l) :
  Calls Tryz.prog 166 #[v,.int .i64 x] w fun e w'=>e=.returned (.bool (decide (x∈l)))/\w'=w:=by
 obtain⟨ao,cap,rfl,-,hm,hc⟩:=h;cases l with
 | nil =>
  refine (Tryz.slices_Contains_int_empty ao cap x w).mono ?_;rintro e w' ⟨rfl,rfl⟩;exact⟨bB (by simp),rfl⟩
 | cons y r =>
  obtain⟨b,off,rfl,bG⟩:=hc (by simp);refine (Tryz.slices_Contains_int b off (y :: r).length cap (y :: r) x w (Qb _) hm bG).mono ?_;rintro e w' ⟨rfl,rfl⟩;exact⟨bB (by rw[Qd];simp),rfl⟩
namespace Plain
end Plain
namespace Plain
end Plain
theorem MP (v:Value) (l:List Int) (w:World) (hl:l.length<=1000000000) (h:aJ w v l) :
  Calls Tryz.prog 107 #[v] w fun e w'=>∃ v',e=.returned v'/\ax w' w.heap.size v' l/\ai [] w w':=by
 obtain⟨ao,cap,rfl,dS,hm,hc⟩:=h;cases l with
 | nil =>
  cases ao with
  | none =>
   refine (Tryz.slices_Clone_int_nil 0 cap w).mono ?_;rintro e w' ⟨rfl,rfl⟩;exact⟨_,rfl,gp _ _,ai.refl _ _⟩
  | some ad =>
   refine (Tryz.slices_Clone_int_zero ad cap w).mono ?_;rintro e w' ⟨v',rfl,h1,-,h3⟩;exact⟨_,rfl,⟨h1,by simp,by simp⟩,ai.n9 h3 (Qb _)⟩
 | cons y r =>
  obtain⟨b,off,rfl,bG⟩:=hc (by simp);refine (Tryz.slices_Clone_int b off (y :: r).length cap (y :: r) w (Qb _) (by omega) bG).mono ?_;rintro e w' ⟨v',rfl,h1,-,h3⟩;rw[Qd] at h1;exact⟨_,rfl,⟨h1,dS,by omega⟩,ai.n9 h3 (Qb _)⟩
structure ahr (w:World) (pb B T:Nat) (t s:List (List Int)):Prop where
 ex:∃ o1 v1 o2 v2,w.heap[pb]?=some (.cells #[o1,o2] 42 (0,0))/\bW w B o1 v1 t/\bW w B o2 v2 s/\(o1.ownBlock=none\/o1.ownBlock≠o2.ownBlock) /\
  (∀ k b,k<v1.length->(v1.getD k undef).ownBlock=some b->b<T)/\(∀ k b,k<v2.length->(v2.getD k undef).ownBlock=some b->b<T)
 small:∀ l∈t++s,(∀ x∈l,bn x)/\l.length<4294967296
theorem oZ {o:Oper} {a:Act} {K:Act->World->Prop} {Q:Exit->Act->World->Prop} {w w':World} (s x:Operand) (t:TypeId) (ho:o.op=.call { callee:=.builtin .append,args:=#[s,x],argTypes:=#[t,t] }) {v u r:Value} (hs:a.eval s=v) (hx:a.eval x=u)
  (hr:(Builtin.append_ #[t,t] o.type #[v,u]).run Tryz.prog w=.ok r w') (hK:K (a.put o.dst r) w'):o.wp Tryz.prog a w K Q:=by
 unfold Oper.wp execOp;simp only[ho,resolve,invoke,builtin,Sem.run_bind,Sem.run_pure,Result.andThen_ok,List.map_toArray,List.map_cons,List.map_nil,hs,hx,hr];exact hK
namespace Plain
end Plain
end Go.Proofs.YtbkjljffnkdcjaaGreat
namespace Go.Proofs.YtbkjljffnkdcjaaGreat
open Go.RowKit Go.Maps
namespace Plain
end Plain
namespace Plain
end Plain
namespace Plain
end Plain
theorem ER {a b:List (List Int)} (hl:a.length=b.length):(Qe a.length).all (fun i=>decide (a.getD i []=b.getD i []))=decide (a=b):=by
 by_cases h:a=b
 ·subst h
  rw[decide_eq_true rfl,List.all_eq_true];simp
 rw[decide_eq_false h,List.all_eq_false];refine Qa fun q=>h (List.ext_getElem hl fun i h1 h2=>?_);refine Qa fun e=>q ⟨i,List.mem_range.2 h1,?_⟩;simpa[List.getD,h1,h2] using e
set_option maxRecDepth 100000 in
set_option maxHeartbeats 2000000 in
theorem za (va vb:Value) (a b:List (List Int)) (w:World) (ha:eC w va a) (hb:eC w vb b) :
  Calls Tryz.prog 19 #[va,vb] w fun e w'=>e=.returned (.bool (decide (a=b)))/\ai [] w w':=by
 have HA:=lh ha;have HB:=lh hb;obtain⟨ao,ac,rfl,KZ,-⟩:=ha;obtain⟨bo,bc,rfl,vD,-⟩:=hb;by_cases hl:a.length=b.length
 ·have HE:=lh (ER hl)
  have HL:=lh hl;have Cd:((a.length:Int) != (b.length:Int))=false:=by rw[hl];simp
  clear hl
  go_enter Tryz.func19,Tryz.ntmps19
  go_wp2
  go_loopw [5] (fun c wr=>∃ k:Nat,k<=a.length/\c=.int .i64 k/\Hid ((Qe k).all (fun i=>decide (a.getD i []=b.getD i []))=true)/\ai [] w wr) (fun c _=>a.length - (intOf c).toNat)
  case atStart=>exact⟨0,Nat.zero_le _,rfl,rfl,ai.refl _ _⟩
  case round =>
   obtain⟨k,hk,rfl,cU,hc⟩:=hrel;have HC:=lh hc;by_cases aU:k<a.length
   ·have YA:k<b.length:=by have:=HL.out;omega
    obtain⟨g1,o1,u1,c1,rfl,m1,r1⟩:=(HA.out.fresh hc).row aU;obtain⟨g2,o2,u2,c2,rfl,m2,r2⟩:=(HB.out.fresh hc).row YA;have HF:=lh (fun h=>Plain.dY (p:=fun i=>decide (a.getD i []=b.getD i [])) aU h);have HS:=lh (Plain.eI (fun i=>decide (a.getD i []=b.getD i [])) k);obtain⟨x,hx⟩:∃ x,a.getD k []=x:=⟨_,rfl⟩;obtain⟨y,hy⟩:∃ y,b.getD k []=y:=⟨_,rfl⟩;rw[hx] at m1 r1;rw[hy] at m2 r2;have HX:=lh hx;have HY:=lh hy;have R1:=lh r1;have R2:=lh r2;clear hc hx hy r1 r2;go_wp2;have aD:ai [] wr wr.drew:=(ai.refl [] wr).drew;refine au (ai [] wr) [0,1,2,3,4,5,6,7,9] (Way.line [0,1,2,3,4,5,6,7,8,9] .done) (by kernel_rfl) (by kernel_rfl) ?_;simp only[Way.line]
    repeat
     first
      | (refine ar rfl (by rfl) (by rfl) (fun _ _ _ h=>h) aD ?_;simp only[Qc,Z1,Z2,Z3,Z4,Z5,Z6])
      | (refine aq (v:=?_) rfl (by rfl) (by rfl) (fun _ _ _ h=>h) aD (fun w' aK=>?_) ?_;rotate_left;(focus (have fU:=aK.c m1;have gX:=aK.c m2;clear aK;go_simp;try with_reducible rfl));simp only[Qc,Z1,Z2,Z3,Z4,Z5,Z6])
      | (refine ak rfl (by rfl) (by rfl) aD ?_;simp only[Qc,Z1,Z2,Z3,Z4,Z5,Z6])
    refine aC rfl (by rfl) (by rfl) (fun K hK=>?_);go_simp;refine (Mp _ _ x y _ (R1.out.fresh aD) (R2.out.fresh aD)).mono ?_;rintro e w3 ⟨rfl,lJ⟩;have bD:=aD.t lJ;clear aD lJ;have aD:=bD;clear bD;refine hK.out _ _ (fun _=>aD) ?_;clear hK K
    try simp only[Qc,Z1,Z2,Z3,Z4,Z5,Z6]
    repeat
     first
      | (refine ar rfl (by rfl) (by rfl) (fun _ _ _ h=>h) aD ?_;simp only[Qc,Z1,Z2,Z3,Z4,Z5,Z6])
      | (refine aq (v:=?_) rfl (by rfl) (by rfl) (fun _ _ _ h=>h) aD (fun w' aK=>?_) ?_;rotate_left;(focus (have fU:=aK.c m1;have gX:=aK.c m2;clear aK;go_simp;try with_reducible rfl));simp only[Qc,Z1,Z2,Z3,Z4,Z5,Z6])
      | (refine ak rfl (by rfl) (by rfl) aD ?_;simp only[Qc,Z1,Z2,Z3,Z4,Z5,Z6])
    refine aB ?_;have dD:=lh (HC.out.t aD);clear aD m1 m2;by_cases q:x=y
    ·rw[decide_eq_true q]
     have CS:=lh (show (Qe (k+1)).all (fun i=>decide (a.getD i []=b.getD i []))=true by rw[HS.out,cU.out,HX.out,HY.out];simp[q]);clear q;go_wp2
     go_roundw
     case rel=>exact⟨k+1,by omega,by go_num,CS,dD.out⟩
     case measure=>simp[intOf];omega
    rw[decide_eq_false q];have Kj:=lh (show decide (a=b)=false by rw[<-HE.out];exact HF.out (by rw[HX.out,HY.out];exact decide_eq_false q));clear q;go_wp2;go_ret;exact⟨bB Kj.out.symm,dD.out⟩
   have e:k=a.length:=by omega
   subst e;have Kj:=lh (HE.out.symm.trans cU.out);clear hc;go_wp2;go_ret;exact⟨bB Kj.out.symm,HC.out⟩
 have HE:=lh (show decide (a=b)=false from decide_eq_false (fun e=>hl (by rw[e])));have Cd:((a.length:Int) != (b.length:Int))=true:=by simp only[bne_iff_ne];omega
 clear hl
 go_enter Tryz.func19,Tryz.ntmps19
 go_wp2;go_ret;exact⟨bB HE.out.symm,ai.refl _ _⟩
end Go.Proofs.YtbkjljffnkdcjaaGreat
