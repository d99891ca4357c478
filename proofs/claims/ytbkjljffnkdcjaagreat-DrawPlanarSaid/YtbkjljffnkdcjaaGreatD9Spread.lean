/- the document's answer for package walk: the contract of Spread, from one iD. Conditions: a right part that lies in memory and reads so; a iD of it. -/
import Derived.Test.YtbkjljffnkdcjaaGreatD9Queue
namespace Go.Proofs.YtbkjljffnkdcjaaGreat
open Go.RowKit Go.Maps
namespace Plain
structure Met (g:Gr) (p:Pt) (but a:Int) (M:List Int):Prop where
 base:a∈M
 U9:∀ u∈M,bP g p but a u
 OT:∀ u∈M,u∈p.v
 nodup:M.Nodup
end Plain
namespace Plain
def iY (g:Gr) (p:Pt):Bool:=decide (g.e.length<=60)&&decide (p.v.length<=60)&&decide (p.e.length<=60)&&(decide (g.n<=60) || decide (1024<g.n))
def iA (g:Gr) (p:Pt) (aa:List (List Int)):Bool:=iY g p&&decide (aa.length<=100)&&(List.range aa.length).all fun i=>decide ((aa.getD i []).length<=200)
end Plain
def bit (b:Bool):Int:=if b then 1 else 0
theorem GM (vg vp:Value) (g:Plain.Gr) (p:Plain.Pt) (w:World) (hg:dU w vg g) (hp:gD w vp p) :
  Calls Tryz.prog 69 #[vg,vp] w fun e w'=>e=.returned (.int .i64 (bit (Plain.iY g p)))/\ai [] w w':=by
 obtain⟨eo,cap,rfl,-,hm,-,-⟩:=hg;obtain⟨v1,v2,rfl,hv,he⟩:=hp;obtain⟨ao,ac,rfl,-,DY,-⟩:=hv;obtain⟨bo,bc,rfl,-,vD,-⟩:=he;obtain⟨eG,fh,cG⟩:=dq w #[.int .i64 g.n,.slice eo g.e.length cap] #[.slice ao p.v.length ac,.slice bo p.e.length bc] 24 27;have x0:=(cell_of_row _ _ 0 _ _ _ eG).trans (show _=some (Value.int .i64 g.n) from rfl);have x1:=(cell_of_row _ _ 1 _ _ _ eG).trans (show _=some (Value.slice eo g.e.length cap) from rfl);have y0:=(cell_of_row _ _ 0 _ _ _ fh).trans (show _=some (Value.slice ao p.v.length ac) from rfl);have y1:=(cell_of_row _ _ 1 _ _ _ fh).trans (show _=some (Value.slice bo p.e.length bc) from rfl);have b8:=lh cG;clear eG fh cG;have HS:=lh (show Plain.iY g p=(decide (g.e.length<=60)&&decide (p.v.length<=60)&&decide (p.e.length<=60)&&(decide (g.n<=60) || decide (1024<g.n))) from rfl);by_cases h1:g.e.length<=60
 ·by_cases h2:p.v.length<=60
  ·by_cases h3:p.e.length<=60
   ·by_cases h4:g.n<=60
    ·have HB:=lh (show bit (Plain.iY g p)=1 by rw[HS.out];simp[h1,h2,h3,h4,bit])
     go_enter Tryz.func69,Tryz.ntmps69
     go_wp2;go_ret;exact⟨bS HB.out.symm,b8.out⟩
    by_cases h5:1024<g.n
    ·have HB:=lh (show bit (Plain.iY g p)=1 by rw[HS.out];simp[h1,h2,h3,h5,bit])
     go_enter Tryz.func69,Tryz.ntmps69
     go_wp2;go_ret;exact⟨bS HB.out.symm,b8.out⟩
    have HB:=lh (show bit (Plain.iY g p)=0 by rw[HS.out];simp[h4,h5,bit])
    go_enter Tryz.func69,Tryz.ntmps69
    go_wp2;go_ret;exact⟨bS HB.out.symm,b8.out⟩
   have HB:=lh (show bit (Plain.iY g p)=0 by rw[HS.out];simp[h3,bit])
   go_enter Tryz.func69,Tryz.ntmps69
   go_wp2;go_ret;exact⟨bS HB.out.symm,b8.out⟩
  have HB:=lh (show bit (Plain.iY g p)=0 by rw[HS.out];simp[h2,bit])
  go_enter Tryz.func69,Tryz.ntmps69
  go_wp2;go_ret;exact⟨bS HB.out.symm,b8.out⟩
 have HB:=lh (show bit (Plain.iY g p)=0 by rw[HS.out];simp[h1,bit])
 go_enter Tryz.func69,Tryz.ntmps69
 go_wp2;go_ret;exact⟨bS HB.out.symm,b8.out⟩
set_option maxHeartbeats 800000 in
theorem xa (vg vp vt:Value) (g:Plain.Gr) (p:Plain.Pt) (aa:List (List Int)) (w:World) (hg:dU w vg g) (hp:gD w vp p) (ht:eC w vt aa) :
  Calls Tryz.prog 31 #[vg,vp,vt] w fun e w'=>e=.returned (.int .i64 (bit (Plain.iA g p aa)))/\ai [] w w':=by
 have HG:=lh hg;have HP:=lh hp;obtain⟨eo,cap,rfl,-,hm,-,-⟩:=hg;obtain⟨v1,v2,rfl,hv,he⟩:=hp;obtain⟨ao,ac,rfl,-,DY,-⟩:=hv;obtain⟨bo,bc,rfl,-,vD,-⟩:=he;obtain⟨T5,tc,rfl,Bp,zk⟩:=ht;have Xh:=lh zk;obtain⟨eG,fh,cG⟩:=dq w #[.int .i64 g.n,.slice eo g.e.length cap] #[.slice ao p.v.length ac,.slice bo p.e.length bc] 24 27;have b8:=lh cG;have HS:=lh (show Plain.iA g p aa=(Plain.iY g p&&decide (aa.length<=100)&&(List.range aa.length).all fun i=>decide ((aa.getD i []).length<=200)) from rfl);clear eG fh cG zk
 go_enter Tryz.func31,Tryz.ntmps31
 go_wp2_with fail
 refine (GM _ _ g p _ (HG.out.fresh b8.out) (HP.out.fresh b8.out)).mono ?_;rintro e w2 ⟨rfl,bG⟩;have cA:=lh (b8.out.t bG);clear bG;cases h4:Plain.iY g p with
 | false =>
  have HB:=lh (show bit (Plain.iA g p aa)=0 by rw[HS.out,h4];rfl);rw[show bit false=0 from rfl];go_wp2;go_ret;exact⟨bS HB.out.symm,cA.out⟩
 | true =>
  rw[show bit true=1 from rfl];by_cases h5:aa.length<=100
  ·have uQ:=lh (show Plain.iA g p aa=((List.range aa.length).all fun i=>decide ((aa.getD i []).length<=200)) by rw[HS.out,h4,decide_eq_true h5];rfl)
   clear h4 HS;go_wp2
   go_loopw [7] (fun c wr=>∃ k:Nat,k<=aa.length/\c=.int .i64 k/\ai [] w wr/\Hid ((List.range k).all (fun i=>decide ((aa.getD i []).length<=200))=true)) (fun c _=>aa.length - (intOf c).toNat)
   case atStart=>exact⟨0,Nat.zero_le _,rfl,cA.out,rfl⟩
   case round =>
    obtain⟨k,hk,rfl,hc,cU⟩:=hrel;have HC:=lh hc;by_cases aU:k<aa.length
    ·obtain⟨b,off,u,rfl,aO,-,hints⟩:=Xh.out k aU
     obtain⟨uo,uc,rfl,-,DW,-⟩:=hints;have c0:=hc.c aO;have HF:=lh (fun h=>Plain.dY (p:=fun i=>decide ((aa.getD i []).length<=200)) aU h);have HSS:=lh (Plain.eI (fun i=>decide ((aa.getD i []).length<=200)) k);clear aO hc;generalize (aa.getD k []).length=n at *;by_cases h6:n<=200
     ·have HK:=lh (show (List.range (k+1)).all (fun i=>decide ((aa.getD i []).length<=200))=true by rw[HSS.out,cU.out];simp[h6])
      go_wp2
      go_roundw
      case rel=>exact⟨k+1,by omega,by go_num,HC.out,HK⟩
      case measure=>simp[intOf];omega
     have HB:=lh (show bit (Plain.iA g p aa)=0 by rw[uQ.out,HF.out (by simp[h6])];rfl);go_wp2;go_ret;exact⟨bS HB.out.symm,HC.out⟩
    have e:k=aa.length:=by omega
    subst e;have HB:=lh (show bit (Plain.iA g p aa)=1 by rw[uQ.out,cU.out];rfl);clear hc;go_wp2;go_ret;exact⟨bS HB.out.symm,HC.out⟩
  have HB:=lh (show bit (Plain.iA g p aa)=0 by rw[HS.out,h4,decide_eq_false h5];rfl);clear h4 HS;go_wp2;go_ret;exact⟨bS HB.out.symm,cA.out⟩
theorem Ih {a b:List Int} (hl:a.length=b.length):(List.range a.length).all (fun i=>decide (a.getD i 0=b.getD i 0))=decide (a=b):=by
 by_cases h:a=b
 ·subst h
  rw[decide_eq_true rfl,List.all_eq_true];simp
 rw[decide_eq_false h,List.all_eq_false];refine Classical.byContradiction fun q=>h (List.ext_getElem hl fun i h1 h2=>?_);refine Classical.byContradiction fun e=>q ⟨i,List.mem_range.2 h1,?_⟩;simpa[List.getD,h1,h2] using e
theorem Mp (va vb:Value) (a b:List Int) (w:World) (ha:aJ w va a) (hb:aJ w vb b) :
  Calls Tryz.prog 30 #[va,vb] w fun e w'=>e=.returned (.bool (decide (a=b)))/\ai [] w w':=by
 obtain⟨ao,ac,rfl,-,KZ,Sp⟩:=ha;obtain⟨bo,bc,rfl,-,vD,rR⟩:=hb;have HA:=lh Sp;have HB:=lh rR;clear Sp rR;by_cases hl:a.length=b.length
 ·have HE:=lh (Ih hl)
  have HL:=lh hl;have Cd:((a.length:Int)==(b.length:Int))=true:=by rw[hl];simp
  go_enter Tryz.func30,Tryz.ntmps30
  rw[<-hl];clear Cd hl;go_wp2
  go_loopw [5] (fun c wr=>∃ k:Nat,k<=a.length/\c=.int .i64 k/\ai [] w wr/\Hid ((List.range k).all (fun i=>decide (a.getD i 0=b.getD i 0))=true)) (fun c _=>a.length - (intOf c).toNat)
  case atStart=>exact⟨0,Nat.zero_le _,rfl,ai.refl _ _,rfl⟩
  case round =>
   obtain⟨k,hk,rfl,hc,cU⟩:=hrel;have HC:=lh hc;by_cases aU:k<a.length
   ·obtain⟨ab,xQ,rfl,Sp⟩:=HA.out (by intro e;rw[e] at aU;simp at aU)
    have YA:k<b.length:=by have:=HL.out;omega
    obtain⟨bb,rh,rfl,rR⟩:=HB.out (by intro e;rw[e] at YA;simp at YA);have c0:=hc.c (Sp k aU);have c1:=hc.c (rR k YA);have HF:=lh (fun h=>Plain.dY (p:=fun i=>decide (a.getD i 0=b.getD i 0)) aU h);have HS:=lh (Plain.eI (fun i=>decide (a.getD i 0=b.getD i 0)) k);have HK:=lh (show (decide (a.getD k 0=b.getD k 0))=decide (a.getD k 0=b.getD k 0) from rfl);obtain⟨x,hx⟩:∃ x,a.getD k 0=x:=⟨_,rfl⟩;obtain⟨y,hy⟩:∃ y,b.getD k 0=y:=⟨_,rfl⟩;have HX:=lh hx;have HY:=lh hy;rw[hx] at c0;rw[hy] at c1;clear Sp rR hc hx hy HK;go_wp2;have aD:(fun w':World=>w'.cell? ⟨ab,xQ+k,none⟩=some (.int .i64 x)/\w'.cell? ⟨bb,rh+k,none⟩=some (.int .i64 y)) wr.drew:=⟨c0,c1⟩;refine au (fun w':World=>w'.cell? ⟨ab,xQ+k,none⟩=some (.int .i64 x)/\w'.cell? ⟨bb,rh+k,none⟩=some (.int .i64 y)) [0,1,2,3,4,5,6,7,8] (Way.line [0,1,2,3,4,5,6,7,8] .done) (by kernel_rfl) (by kernel_rfl) ?_;simp only[Way.line]
    repeat
     first
      | (refine ar rfl (by rfl) (by rfl) (fun _ _ _ h=>h) aD ?_;simp only[Act.put,Z1,Z2,Z3,Z4,Z5,Z6])
      | (refine aq (v:=?_) rfl (by rfl) (by rfl) (fun _ _ _ h=>h) aD (fun w' aK=>?_) ?_;rotate_left;(focus ((try dsimp only at aK);go_simp;try with_reducible rfl));simp only[Act.put,Z1,Z2,Z3,Z4,Z5,Z6])
      | (refine ak rfl (by rfl) (by rfl) aD ?_;simp only[Act.put,Z1,Z2,Z3,Z4,Z5,Z6])
    refine aB ?_;have Nj:=lh HC.out.drew;clear aD c0 c1;by_cases fW:x=y
    ·have CS:=lh (show (List.range (k+1)).all (fun i=>decide (a.getD i 0=b.getD i 0))=true by rw[HS.out,cU.out,HX.out,HY.out];simp[fW])
     have b1:(x==y)=true:=by rw[beq_iff_eq];exact fW
     have b2:(x != y)=false:=by simp[fW]
     clear fW;go_wp2
     go_roundw
     case rel=>exact⟨k+1,by omega,by go_num,Nj.out,CS⟩
     case measure=>simp[intOf];omega
    have Kj:=lh (show decide (a=b)=false by rw[<-HE.out];exact HF.out (by rw[HX.out,HY.out];exact decide_eq_false fW));have b1:(x==y)=false:=by rw[beq_eq_false_iff_ne];exact fW
    have b2:(x != y)=true:=by simp[fW]
    clear fW;go_wp2;go_ret;exact⟨bB Kj.out.symm,Nj.out⟩
   have e:k=a.length:=by omega
   subst e;have Kj:=lh (HE.out.symm.trans cU.out);clear hc;go_wp2;go_ret;exact⟨bB Kj.out.symm,HC.out⟩
 have HE:=lh (show decide (a=b)=false from decide_eq_false (fun e=>hl (by rw[e])));have Cd:((a.length:Int)==(b.length:Int))=false:=by rw[beq_eq_false_iff_ne];omega
 go_enter Tryz.func30,Tryz.ntmps30
 go_wp2;go_ret;exact⟨bB HE.out.symm,ai.refl _ _⟩
namespace Plain
theorem jb (f:Int->Bool) {l:List Int} {k:Nat} (hk:k<l.length):(l.take (k+1)).filter f=(l.take k).filter f++(if f (l.getD k 0) then [l.getD k 0] else []):=by
 have e:l.getD k 0=l[k]:=by simp[List.getD,hk]
 rw[List.take_succ_eq_append_getElem hk,List.filter_append,e]
 congr 1
 rw[List.filter_cons,List.filter_nil]
end Plain
def qV (w:World) (B ob:Nat) (V E:List Int):Prop:=∃ v1 v2,w.heap[ob]?=some (.cells #[v1,v2] 27 (0,0))/\ax w B v1 V/\ax w B v2 E/\(∀ j∈aL v1,j ∉ aL v2)/\B<=ob
end Go.Proofs.YtbkjljffnkdcjaaGreat
