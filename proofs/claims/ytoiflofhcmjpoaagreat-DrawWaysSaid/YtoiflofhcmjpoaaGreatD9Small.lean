/- what is small enough to be looked at: contracts of laws 04's, 06's and 08's Small. Conditions: a graph, a part, lists that lie in memory and read so. -/
import Derived.Test.YtoiflofhcmjpoaaGreatD9Row
open List renaming range→Qa
open Classical renaming byContradiction→Qb
open Go.Value renaming slice→Qc
open Nat renaming zero_le→Qd
namespace Go.Proofs.YtoiflofhcmjpoaaGreat
open Go.RowKit Go.Maps
namespace Plain
def iP (g:Gr) (p:Pt):Bool:=decide (g.e.length<=60)&&decide (p.v.length<=60)&&decide (p.e.length<=60)&&(decide (g.n<=60) || decide (1024<g.n))
def jv (g:Gr) (p:Pt) (aa:List (List Int)):Bool:=iP g p&&decide (aa.length<=100)&&(Qa aa.length).all fun i=>decide ((aa.getD i []).length<=200)
end Plain
def bit (b:Bool):Int:=if b then 1 else 0
theorem DV (vg vp:Value) (g:Plain.Gr) (p:Plain.Pt) (w:World) (hg:dJ w vg g) (hp:fL w vp p) :
  Calls Tryz.prog 47 #[vg,vp] w fun e w'=>e=.returned (.int .i64 (bit (Plain.iP g p)))/\ag [] w w':=by
 obtain⟨eo,cap,rfl,-,hm,-,-⟩:=hg;obtain⟨v1,v2,rfl,hv,he⟩:=hp;obtain⟨ao,ac,rfl,-,Ax,-⟩:=hv;obtain⟨bo,bc,rfl,-,sQ,-⟩:=he;obtain⟨fz,ff,cY⟩:=eZ w #[.int .i64 g.n,.slice eo g.e.length cap] #[.slice ao p.v.length ac,.slice bo p.e.length bc] 24 27;have x0:=(cell_of_row _ _ 0 _ _ _ fz).trans (show _=some (Value.int .i64 g.n) from rfl);have x1:=(cell_of_row _ _ 1 _ _ _ fz).trans (show _=some (Qc eo g.e.length cap) from rfl);have y0:=(cell_of_row _ _ 0 _ _ _ ff).trans (show _=some (Qc ao p.v.length ac) from rfl);have y1:=(cell_of_row _ _ 1 _ _ _ ff).trans (show _=some (Qc bo p.e.length bc) from rfl);have b8:=lh cY;clear fz ff cY;have HS:=lh (show Plain.iP g p=(decide (g.e.length<=60)&&decide (p.v.length<=60)&&decide (p.e.length<=60)&&(decide (g.n<=60) || decide (1024<g.n))) from rfl);by_cases h1:g.e.length<=60
 ·by_cases h2:p.v.length<=60
  ·by_cases h3:p.e.length<=60
   ·by_cases h4:g.n<=60
    ·have HB:=lh (show bit (Plain.iP g p)=1 by rw[HS.out];simp[h1,h2,h3,h4,bit])
     go_enter Tryz.func47,Tryz.ntmps47
     go_wp2;go_ret;exact⟨bO HB.out.symm,b8.out⟩
    by_cases h5:1024<g.n
    ·have HB:=lh (show bit (Plain.iP g p)=1 by rw[HS.out];simp[h1,h2,h3,h5,bit])
     go_enter Tryz.func47,Tryz.ntmps47
     go_wp2;go_ret;exact⟨bO HB.out.symm,b8.out⟩
    have HB:=lh (show bit (Plain.iP g p)=0 by rw[HS.out];simp[h4,h5,bit])
    go_enter Tryz.func47,Tryz.ntmps47
    go_wp2;go_ret;exact⟨bO HB.out.symm,b8.out⟩
   have HB:=lh (show bit (Plain.iP g p)=0 by rw[HS.out];simp[h3,bit])
   go_enter Tryz.func47,Tryz.ntmps47
   go_wp2;go_ret;exact⟨bO HB.out.symm,b8.out⟩
  have HB:=lh (show bit (Plain.iP g p)=0 by rw[HS.out];simp[h2,bit])
  go_enter Tryz.func47,Tryz.ntmps47
  go_wp2;go_ret;exact⟨bO HB.out.symm,b8.out⟩
 have HB:=lh (show bit (Plain.iP g p)=0 by rw[HS.out];simp[h1,bit])
 go_enter Tryz.func47,Tryz.ntmps47
 go_wp2;go_ret;exact⟨bO HB.out.symm,b8.out⟩
set_option maxHeartbeats 800000 in
theorem D4 (vg vp vt:Value) (g:Plain.Gr) (p:Plain.Pt) (aa:List (List Int)) (w:World) (hg:dJ w vg g) (hp:fL w vp p) (ht:cf w vt aa) :
  Calls Tryz.prog 64 #[vg,vp,vt] w fun e w'=>e=.returned (.int .i64 (bit (Plain.jv g p aa)))/\ag [] w w':=by
 have HG:=lh hg;have HP:=lh hp;obtain⟨eo,cap,rfl,-,hm,-,-⟩:=hg;obtain⟨v1,v2,rfl,hv,he⟩:=hp;obtain⟨ao,ac,rfl,-,Ax,-⟩:=hv;obtain⟨bo,bc,rfl,-,sQ,-⟩:=he;obtain⟨PX,tc,rfl,KX,wY⟩:=ht;have Pb:=lh wY;obtain⟨fz,ff,cY⟩:=eZ w #[.int .i64 g.n,.slice eo g.e.length cap] #[.slice ao p.v.length ac,.slice bo p.e.length bc] 24 27;have b8:=lh cY;have HS:=lh (show Plain.jv g p aa=(Plain.iP g p&&decide (aa.length<=100)&&(Qa aa.length).all fun i=>decide ((aa.getD i []).length<=200)) from rfl);clear fz ff cY wY
 go_enter Tryz.func64,Tryz.ntmps64
 go_wp2_with fail
 refine (DV _ _ g p _ (HG.out.fresh b8.out) (HP.out.fresh b8.out)).mono ?_;rintro e w2 ⟨rfl,bA⟩;have cB:=lh (b8.out.t bA);clear bA;cases h4:Plain.iP g p with
 | false =>
  have HB:=lh (show bit (Plain.jv g p aa)=0 by rw[HS.out,h4];rfl);rw[show bit false=0 from rfl];go_wp2;go_ret;exact⟨bO HB.out.symm,cB.out⟩
 | true =>
  rw[show bit true=1 from rfl];by_cases h5:aa.length<=100
  ·have sT:=lh (show Plain.jv g p aa=((Qa aa.length).all fun i=>decide ((aa.getD i []).length<=200)) by rw[HS.out,h4,decide_eq_true h5];rfl)
   clear h4 HS;go_wp2
   go_loopw [7] (fun c wr=>∃ k:Nat,k<=aa.length/\c=.int .i64 k/\ag [] w wr/\Hid ((Qa k).all (fun i=>decide ((aa.getD i []).length<=200))=true)) (fun c _=>aa.length - (intOf c).toNat)
   case atStart=>exact⟨0,Qd _,rfl,cB.out,rfl⟩
   case round =>
    obtain⟨k,hk,rfl,hc,dH⟩:=hrel;have HC:=lh hc;by_cases aL:k<aa.length
    ·obtain⟨b,off,u,rfl,aK,-,hints⟩:=Pb.out k aL
     obtain⟨uo,uc,rfl,-,BO,-⟩:=hints;have c0:=hc.c aK;have HF:=lh (fun h=>Plain.dL (p:=fun i=>decide ((aa.getD i []).length<=200)) aL h);have YQ:=lh (Plain.eA (fun i=>decide ((aa.getD i []).length<=200)) k);clear aK hc;generalize (aa.getD k []).length=n at *;by_cases h6:n<=200
     ·have HK:=lh (show (Qa (k+1)).all (fun i=>decide ((aa.getD i []).length<=200))=true by rw[YQ.out,dH.out];simp[h6])
      go_wp2
      go_roundw
      case rel=>exact⟨k+1,by omega,by go_num,HC.out,HK⟩
      case measure=>simp[intOf];omega
     have HB:=lh (show bit (Plain.jv g p aa)=0 by rw[sT.out,HF.out (by simp[h6])];rfl);go_wp2;go_ret;exact⟨bO HB.out.symm,HC.out⟩
    have e:k=aa.length:=by omega
    subst e;have HB:=lh (show bit (Plain.jv g p aa)=1 by rw[sT.out,dH.out];rfl);clear hc;go_wp2;go_ret;exact⟨bO HB.out.symm,HC.out⟩
  have HB:=lh (show bit (Plain.jv g p aa)=0 by rw[HS.out,h4,decide_eq_false h5];rfl);clear h4 HS;go_wp2;go_ret;exact⟨bO HB.out.symm,cB.out⟩
end Go.Proofs.YtoiflofhcmjpoaaGreat
-- READS ONLY
namespace Go.Proofs.YtoiflofhcmjpoaaGreat
open Go.RowKit Go.Maps
theorem Gz {a b:List Int} (hl:a.length=b.length):(Qa a.length).all (fun i=>decide (a.getD i 0=b.getD i 0))=decide (a=b):=by
 by_cases h:a=b
 ·subst h
  rw[decide_eq_true rfl,List.all_eq_true];simp
 rw[decide_eq_false h,List.all_eq_false];refine Qb fun q=>h (List.ext_getElem hl fun i h1 h2=>?_);refine Qb fun e=>q ⟨i,List.mem_range.2 h1,?_⟩;simpa[List.getD,h1,h2] using e
theorem Ja (va vb:Value) (a b:List Int) (w:World) (ha:al w va a) (hb:al w vb b) :
  Calls Tryz.prog 42 #[va,vb] w fun e w'=>e=.returned (.bool (decide (a=b)))/\ag [] w w':=by
 obtain⟨ao,ac,rfl,-,DA,L8⟩:=ha;obtain⟨bo,bc,rfl,-,sQ,qQ⟩:=hb;have HA:=lh L8;have HB:=lh qQ;clear L8 qQ;by_cases hl:a.length=b.length
 ·have HE:=lh (Gz hl)
  have HL:=lh hl;have CD:((a.length:Int)==(b.length:Int))=true:=by rw[hl];simp
  go_enter Tryz.func42,Tryz.ntmps42
  rw[<-hl];clear CD hl;go_wp2
  go_loopw [5] (fun c wr=>∃ k:Nat,k<=a.length/\c=.int .i64 k/\ag [] w wr/\Hid ((Qa k).all (fun i=>decide (a.getD i 0=b.getD i 0))=true)) (fun c _=>a.length - (intOf c).toNat)
  case atStart=>exact⟨0,Qd _,rfl,ag.refl _ _,rfl⟩
  case round =>
   obtain⟨k,hk,rfl,hc,dH⟩:=hrel;have HC:=lh hc;by_cases aL:k<a.length
   ·obtain⟨ab,xB,rfl,L8⟩:=HA.out (by grind)
    have hkb:k<b.length:=by have:=HL.out;omega
    obtain⟨bb,sX,rfl,qQ⟩:=HB.out (by grind);have c0:=hc.c (L8 k aL);have c1:=hc.c (qQ k hkb);have HF:=lh (fun h=>Plain.dL (p:=fun i=>decide (a.getD i 0=b.getD i 0)) aL h);have HS:=lh (Plain.eA (fun i=>decide (a.getD i 0=b.getD i 0)) k);have HK:=lh (show (decide (a.getD k 0=b.getD k 0))=decide (a.getD k 0=b.getD k 0) from rfl);obtain⟨x,hx⟩:∃ x,a.getD k 0=x:=⟨_,rfl⟩;obtain⟨y,hy⟩:∃ y,b.getD k 0=y:=⟨_,rfl⟩;have HX:=lh hx;have HY:=lh hy;rw[hx] at c0;rw[hy] at c1;clear L8 qQ hc hx hy HK;go_wp2;have aW:(fun w':World=>w'.cell? ⟨ab,xB+k,none⟩=some (.int .i64 x)/\w'.cell? ⟨bb,sX+k,none⟩=some (.int .i64 y)) wr.drew:=⟨c0,c1⟩;refine ar (fun w':World=>w'.cell? ⟨ab,xB+k,none⟩=some (.int .i64 x)/\w'.cell? ⟨bb,sX+k,none⟩=some (.int .i64 y)) [0,1,2,3,4,5,6,7,8] (Way.line [0,1,2,3,4,5,6,7,8] .done) (by kernel_rfl) (by kernel_rfl) ?_;simp only[Way.line]
    repeat (refine ai (v:=?_) rfl (by rfl) (by rfl) (fun _ _ _ h=>h) aW (fun w' aI=>?_) ?_;rotate_left;(focus ((try dsimp only at aI);go_simp;try with_reducible rfl));simp only[Act.put,Z1,Z2,Z3,Z4,Z5,Z6])
    refine aC ?_;have Au:=lh HC.out.drew;clear aW c0 c1;by_cases qI:x=y
    ·have Bu:=lh (show (Qa (k+1)).all (fun i=>decide (a.getD i 0=b.getD i 0))=true by rw[HS.out,dH.out,HX.out,HY.out];simp[qI])
     have b1:(x==y)=true:=by grind
     have b2:(x != y)=false:=by simp[qI]
     clear qI;go_wp2
     go_roundw
     case rel=>exact⟨k+1,by omega,by go_num,Au.out,Bu⟩
     case measure=>simp[intOf];omega
    have IU:=lh (show decide (a=b)=false by rw[<-HE.out];exact HF.out (by rw[HX.out,HY.out];exact decide_eq_false qI));have b1:(x==y)=false:=by grind
    have b2:(x != y)=true:=by simp[qI]
    clear qI;go_wp2;go_ret;exact⟨bm IU.out.symm,Au.out⟩
   have e:k=a.length:=by omega
   subst e;have IU:=lh (HE.out.symm.trans dH.out);clear hc;go_wp2;go_ret;exact⟨bm IU.out.symm,HC.out⟩
 have HE:=lh (show decide (a=b)=false from decide_eq_false (fun e=>hl (by rw[e])));have CD:((a.length:Int)==(b.length:Int))=false:=by rw[beq_eq_false_iff_ne];omega
 go_enter Tryz.func42,Tryz.ntmps42
 go_wp2;go_ret;exact⟨bm HE.out.symm,ag.refl _ _⟩
end Go.Proofs.YtoiflofhcmjpoaaGreat
-- READS ONLY
namespace Go.Proofs.YtoiflofhcmjpoaaGreat
open Go.RowKit Go.Maps
namespace Plain
theorem il (f:Int->Bool) {l:List Int} {k:Nat} (hk:k<l.length):(l.take (k+1)).filter f=(l.take k).filter f++(if f (l.getD k 0) then [l.getD k 0] else []):=by
 have e:l.getD k 0=l[k]:=by simp[List.getD,hk]
 rw[List.take_succ_eq_append_getElem hk,List.filter_append,e]
 grind
end Plain
def pA (w:World) (B ob:Nat) (V E:List Int):Prop:=∃ v1 v2,w.heap[ob]?=some (.cells #[v1,v2] 27 (0,0))/\aj w B v1 V/\aj w B v2 E/\(∀ j∈aE v1,j ∉ aE v2)/\B<=ob
end Go.Proofs.YtoiflofhcmjpoaaGreat
