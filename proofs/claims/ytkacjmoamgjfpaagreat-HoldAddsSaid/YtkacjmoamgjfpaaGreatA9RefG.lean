/- ref04: the contract of Right. Condition: a graph that lies in memory and reads so. -/
import Derived.Test.YtkacjmoamgjfpaaGreatA9Lin
namespace Go.Proofs.YtkacjmoamgjfpaaGreat
open Go.RowKit Go.Maps
set_option maxRecDepth 100000 in
set_option maxHeartbeats 4000000 in
theorem aAL (v:Value) (g:aA.Gr) (w:World) (hE:g.e.length<4294967296) (h:dW w v g) :
  Calls Tryz.prog 14 #[v] w fun e w'=>e=.returned (.int .i64 g.err)∧Chg [] w w':=by
 obtain⟨eo,cap,rfl,hn,hm,hsm,hcell⟩:=h;have HSM:=lh hsm;have HCE:=lh hcell;have hmin:-9223372036854775808≤g.n:=by have h:=hn;unfold I64 at h;simp only[Lit.wf,Bool.and_eq_true,decide_eq_true_eq] at h;exact h.1
 have n0:=(cell_of_row _ _ 0 _ _ _ (heap_alloc_new w (.cells #[.int .i64 g.n,.slice eo g.e.length cap] 24))).trans (show _=some (Value.int .i64 g.n) from rfl);have x1:=(cell_of_row _ _ 1 _ _ _ (heap_alloc_new w (.cells #[.int .i64 g.n,.slice eo g.e.length cap] 24))).trans (show _=some (Value.slice eo g.e.length cap) from rfl);have HN0:=lh n0;have HX1:=lh x1;have HC1:=lh ((Chg.refl [] w).alloc (.cells #[.int .i64 g.n,.slice eo g.e.length cap] 24));clear hsm hcell hn
 go_enter Tryz.func14,Tryz.ntmps14
 by_cases h1:g.n<0
 ·have HE:=lh (show g.err=3 by unfold aA.Gr.err;rw[if_pos h1])
  have b1:decide (g.n<0)=true:=decide_eq_true h1;clear h1;go_wp2;go_ret;exact⟨aS HE.out.symm,HC1.out⟩
 have b1:decide (g.n<0)=false:=decide_eq_false h1;by_cases h2:1024<g.n
 ·have HE:=lh (show g.err=2 by unfold aA.Gr.err;rw[if_neg h1,if_pos (Or.inl h2)])
  have b2:decide (g.n > 1024)=true:=decide_eq_true h2;clear h1 h2;go_wp2;go_ret;exact⟨aS HE.out.symm,HC1.out⟩
 have b2:decide (g.n > 1024)=false:=decide_eq_false h2;by_cases h4:(g.e.length:Int) > 1024
 ·have HE:=lh (show g.err=2 by unfold aA.Gr.err;rw[if_neg h1,if_pos (Or.inr (by omega))])
  have b4:decide ((g.e.length:Int) > 1024)=true:=decide_eq_true h4;clear h1 h2 h4;go_wp2;go_ret;exact⟨aS HE.out.symm,HC1.out⟩
 have b4:decide ((g.e.length:Int) > 1024)=false:=decide_eq_false h4;have e1:IntKind.i64.wrap (g.n+(g.e.length:Int))=g.n+(g.e.length:Int):=IntWalk.i64_in _ (by omega);by_cases h3:g.n+(g.e.length:Int) > 1024
 ·have HE:=lh (show g.err=2 by unfold aA.Gr.err;rw[if_neg h1,if_pos (Or.inr (by omega))])
  have b5:decide (g.n+(g.e.length:Int) > 1024)=true:=decide_eq_true h3;clear h1 h2 h4 h3;go_wp2;go_ret;exact⟨aS HE.out.symm,HC1.out⟩
 have b5:decide (g.n+(g.e.length:Int) > 1024)=false:=decide_eq_false h3;have HER:=lh (show g.err=if (List.range g.e.length).all g.dC then 0 else 3 by unfold aA.Gr.err;rw[if_neg h1,if_neg (by omega)]);clear h1 h2 h3;go_wp2;clear n0 x1;generalize (w.alloc (.cells #[.int .i64 g.n,.slice eo g.e.length cap] 24))=w1 at *
 go_loopw [3] (fun c wr=>∃ k:Nat,k≤g.e.length∧c=.int .i64 k∧Chg [] w1 wr∧Hid ((List.range k).all g.dC=true)) (fun c _=>g.e.length - (intOf c).toNat)
 case atStart=>exact⟨0,Nat.zero_le _,rfl,Chg.refl _ _,rfl⟩
 case round =>
  obtain⟨k,hk,rfl,hc,hall⟩:=hrel;have HC:=lh hc;have n0:=hc.c HN0.out;have x1:=hc.c HX1.out;by_cases hlt:k<g.e.length
  ·obtain⟨b,off,rfl,hc0,hc1⟩:=HCE.out k hlt
   have c0:=hc.c (HC1.out.c hc0);have c1:=hc.c (HC1.out.c hc1);have HF:=lh (fun h=>aA.cW (p:=g.dC) hlt h);have HS:=lh (aA.dB g.dC k);have HR:=lh (show g.dC k=!(decide ((g.ends k).1<0) || decide (g.n≤(g.ends k).1) || decide ((g.ends k).2<0) || decide (g.n≤(g.ends k).2)) from rfl);have HCD:=lh hc.drew;have HCF:=lh (HC1.out.t hc.drew);clear hc0 hc1 hc;generalize (g.ends k).1=x at *;generalize (g.ends k).2=y at *;go_wp2;have hS0:(fun w':World=>w'.cell? ⟨w.heap.size,0,none⟩=some (.int .i64 g.n)∧w'.cell? ⟨w.heap.size,1,none⟩=some (.slice (some ⟨b,off,none⟩) g.e.length cap)∧w'.cell? ⟨b,off+k*2,none⟩=some (.int .i64 x)∧w'.cell? ⟨b,off+k*2+1,none⟩=some (.int .i64 y)) wr.drew:=⟨n0,x1,c0,c1⟩;refine aF (fun w':World=>w'.cell? ⟨w.heap.size,0,none⟩=some (.int .i64 g.n)∧w'.cell? ⟨w.heap.size,1,none⟩=some (.slice (some ⟨b,off,none⟩) g.e.length cap)∧w'.cell? ⟨b,off+k*2,none⟩=some (.int .i64 x)∧w'.cell? ⟨b,off+k*2+1,none⟩=some (.int .i64 y)) [0,1,2,3,4,5,6,7,8,9,10,11,12,13,14,15,16,17,18,19,20,21,22,23,24,25,26,27,28,29,30,31,32,33,34,35,36,37] (Way.line [0,1,2,3,4,5,6,7,8,9,10,11,12,13,14,15,16,17,18,19,20,21,22,23,24,25,26,27,28,29,30,31,32,33,34,35,36,37] .done) (by kernel_rfl) (by kernel_rfl) ?_;simp only[Way.line];by_cases p1:x<0
   ·have q1:decide (x<0)=true:=decide_eq_true p1
    have HE:=lh (HER.out.trans (if_neg (by rw[HF.out (by rw[HR.out];simp[p1])];decide)));clear p1
    repeat
     first
      | (refine aE rfl (by rfl) (by rfl) (fun _ _ _ h=>h) hS0 ?_;simp only[Act.put,Z1,Z2,Z3,Z4,Z5,Z6])
      | (refine aC (v:=?_) rfl (by rfl) (by rfl) (fun _ _ _ h=>h) hS0 (fun w' hS'=>?_) ?_;rotate_left;(focus ((try dsimp only at hS');go_simp;try with_reducible rfl));simp only[Act.put,Z1,Z2,Z3,Z4,Z5,Z6])
      | (refine aD rfl (by rfl) (by rfl) hS0 ?_;simp only[Act.put,Z1,Z2,Z3,Z4,Z5,Z6])
    refine aG ?_;clear hS0 n0 c0 c1 x1;go_wp2;go_ret;exact⟨aS HE.out.symm,HCF.out⟩
   have q1:decide (x<0)=false:=decide_eq_false p1;by_cases p2:g.n≤x
   ·have q2:decide (x ≥ g.n)=true:=decide_eq_true p2
    have HE:=lh (HER.out.trans (if_neg (by rw[HF.out (by rw[HR.out];simp[p2])];decide)));clear p2
    repeat
     first
      | (refine aE rfl (by rfl) (by rfl) (fun _ _ _ h=>h) hS0 ?_;simp only[Act.put,Z1,Z2,Z3,Z4,Z5,Z6])
      | (refine aC (v:=?_) rfl (by rfl) (by rfl) (fun _ _ _ h=>h) hS0 (fun w' hS'=>?_) ?_;rotate_left;(focus ((try dsimp only at hS');go_simp;try with_reducible rfl));simp only[Act.put,Z1,Z2,Z3,Z4,Z5,Z6])
      | (refine aD rfl (by rfl) (by rfl) hS0 ?_;simp only[Act.put,Z1,Z2,Z3,Z4,Z5,Z6])
    refine aG ?_;clear hS0 n0 c0 c1 x1;go_wp2;go_ret;exact⟨aS HE.out.symm,HCF.out⟩
   have q2:decide (x ≥ g.n)=false:=decide_eq_false p2;by_cases p3:y<0
   ·have q3:decide (y<0)=true:=decide_eq_true p3
    have HE:=lh (HER.out.trans (if_neg (by rw[HF.out (by rw[HR.out];simp[p3])];decide)));clear p3
    repeat
     first
      | (refine aE rfl (by rfl) (by rfl) (fun _ _ _ h=>h) hS0 ?_;simp only[Act.put,Z1,Z2,Z3,Z4,Z5,Z6])
      | (refine aC (v:=?_) rfl (by rfl) (by rfl) (fun _ _ _ h=>h) hS0 (fun w' hS'=>?_) ?_;rotate_left;(focus ((try dsimp only at hS');go_simp;try with_reducible rfl));simp only[Act.put,Z1,Z2,Z3,Z4,Z5,Z6])
      | (refine aD rfl (by rfl) (by rfl) hS0 ?_;simp only[Act.put,Z1,Z2,Z3,Z4,Z5,Z6])
    refine aG ?_;clear hS0 n0 c0 c1 x1;go_wp2;go_ret;exact⟨aS HE.out.symm,HCF.out⟩
   have q3:decide (y<0)=false:=decide_eq_false p3;by_cases p4:g.n≤y
   ·have q4:decide (y ≥ g.n)=true:=decide_eq_true p4
    have HE:=lh (HER.out.trans (if_neg (by rw[HF.out (by rw[HR.out];simp[p4])];decide)));clear p4
    repeat
     first
      | (refine aE rfl (by rfl) (by rfl) (fun _ _ _ h=>h) hS0 ?_;simp only[Act.put,Z1,Z2,Z3,Z4,Z5,Z6])
      | (refine aC (v:=?_) rfl (by rfl) (by rfl) (fun _ _ _ h=>h) hS0 (fun w' hS'=>?_) ?_;rotate_left;(focus ((try dsimp only at hS');go_simp;try with_reducible rfl));simp only[Act.put,Z1,Z2,Z3,Z4,Z5,Z6])
      | (refine aD rfl (by rfl) (by rfl) hS0 ?_;simp only[Act.put,Z1,Z2,Z3,Z4,Z5,Z6])
    refine aG ?_;clear hS0 n0 c0 c1 x1;go_wp2;go_ret;exact⟨aS HE.out.symm,HCF.out⟩
   have q4:decide (y ≥ g.n)=false:=decide_eq_false p4;have HK:=lh (show (List.range (k+1)).all g.dC=true by rw[HS.out,HR.out,hall.out];simp[p1,p2,p3,p4]);clear p1 p2 p3 p4
   repeat
    first
     | (refine aE rfl (by rfl) (by rfl) (fun _ _ _ h=>h) hS0 ?_;simp only[Act.put,Z1,Z2,Z3,Z4,Z5,Z6])
     | (refine aC (v:=?_) rfl (by rfl) (by rfl) (fun _ _ _ h=>h) hS0 (fun w' hS'=>?_) ?_;rotate_left;(focus ((try dsimp only at hS');go_simp;try with_reducible rfl));simp only[Act.put,Z1,Z2,Z3,Z4,Z5,Z6])
     | (refine aD rfl (by rfl) (by rfl) hS0 ?_;simp only[Act.put,Z1,Z2,Z3,Z4,Z5,Z6])
   refine aG ?_;clear hS0 n0 c0 c1 x1;go_wp2
   go_roundw
   case rel=>exact⟨k+1,by omega,by go_num,HCD.out,HK⟩
   case measure=>simp[intOf];omega
  have e:k=g.e.length:=by omega
  subst e;have HE:=lh (HER.out.trans (if_pos hall.out));have HCF:=lh (HC1.out.t HC.out);clear hc;go_wp2;go_ret;exact⟨aS HE.out.symm,HCF.out⟩
end Go.Proofs.YtkacjmoamgjfpaaGreat
