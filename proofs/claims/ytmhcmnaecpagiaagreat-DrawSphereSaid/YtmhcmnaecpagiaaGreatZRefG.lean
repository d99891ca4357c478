/- ref04: the contract of Right. Condition: a graph that lies in memory and reads so. -/
import Derived.Test.YtmhcmnaecpagiaaGreatZRefP
namespace Go.Proofs.YtmhcmnaecpagiaaGreat
open Go.RowKit Go.Maps
set_option maxRecDepth 100000 in
set_option maxHeartbeats 4000000 in
theorem refGraph_any (v:Value) (g:Plain.Gr) (w:World) (hE:g.e.length<4294967296) (h:GrAt w v g) :
  Calls Tryz.prog 48 #[v] w fun e w'=>e=.returned (.int .i64 g.err)∧Chg [] w w':=by
 obtain⟨eo,cap,rfl,hn,hm,hsm,hcell⟩:=h;have HSM:=lh hsm;have HCE:=lh hcell;have hmin:-9223372036854775808≤g.n:=by have h:=hn;unfold I64 at h;simp only[Lit.wf,Bool.and_eq_true,decide_eq_true_eq] at h;exact h.1
 have n0:=(cell_of_row _ _ 0 _ _ _ (heap_alloc_new w (.cells #[.int .i64 g.n,.slice eo g.e.length cap] 24))).trans (show _=some (Value.int .i64 g.n) from rfl);have x1:=(cell_of_row _ _ 1 _ _ _ (heap_alloc_new w (.cells #[.int .i64 g.n,.slice eo g.e.length cap] 24))).trans (show _=some (Value.slice eo g.e.length cap) from rfl);have HN0:=lh n0;have HX1:=lh x1;have HC1:=lh ((Chg.refl [] w).alloc (.cells #[.int .i64 g.n,.slice eo g.e.length cap] 24));clear hsm hcell hn
 go_enter Tryz.func48,Tryz.ntmps48
 by_cases h1:g.n<0
 ·have HE:=lh (show g.err=3 by unfold Plain.Gr.err;rw[if_pos h1])
  have b1:decide (g.n<0)=true:=decide_eq_true h1;clear h1;go_wp2;go_ret;exact⟨ret_int HE.out.symm,HC1.out⟩
 have b1:decide (g.n<0)=false:=decide_eq_false h1;by_cases h2:1024<g.n
 ·have HE:=lh (show g.err=2 by unfold Plain.Gr.err;rw[if_neg h1,if_pos (Or.inl h2)])
  have b2:decide (g.n > 1024)=true:=decide_eq_true h2;clear h1 h2;go_wp2;go_ret;exact⟨ret_int HE.out.symm,HC1.out⟩
 have b2:decide (g.n > 1024)=false:=decide_eq_false h2;by_cases h4:(g.e.length:Int) > 1024
 ·have HE:=lh (show g.err=2 by unfold Plain.Gr.err;rw[if_neg h1,if_pos (Or.inr (by omega))])
  have b4:decide ((g.e.length:Int) > 1024)=true:=decide_eq_true h4;clear h1 h2 h4;go_wp2;go_ret;exact⟨ret_int HE.out.symm,HC1.out⟩
 have b4:decide ((g.e.length:Int) > 1024)=false:=decide_eq_false h4;have e1:IntKind.i64.wrap (g.n+(g.e.length:Int))=g.n+(g.e.length:Int):=IntWalk.i64_in _ (by omega);by_cases h3:g.n+(g.e.length:Int) > 1024
 ·have HE:=lh (show g.err=2 by unfold Plain.Gr.err;rw[if_neg h1,if_pos (Or.inr (by omega))])
  have b5:decide (g.n+(g.e.length:Int) > 1024)=true:=decide_eq_true h3;clear h1 h2 h4 h3;go_wp2;go_ret;exact⟨ret_int HE.out.symm,HC1.out⟩
 have b5:decide (g.n+(g.e.length:Int) > 1024)=false:=decide_eq_false h3;have HER:=lh (show g.err=if (List.range g.e.length).all g.okEdge then 0 else 3 by unfold Plain.Gr.err;rw[if_neg h1,if_neg (by omega)]);clear h1 h2 h3;go_wp2;clear n0 x1;generalize (w.alloc (.cells #[.int .i64 g.n,.slice eo g.e.length cap] 24))=w1 at *
 go_loopw [3] (fun c wr=>∃ k:Nat,k≤g.e.length∧c=.int .i64 k∧Chg [] w1 wr∧Hid ((List.range k).all g.okEdge=true)) (fun c _=>g.e.length - (intOf c).toNat)
 case atStart=>exact⟨0,Nat.zero_le _,rfl,Chg.refl _ _,rfl⟩
 case round =>
  obtain⟨k,hk,rfl,hc,hall⟩:=hrel;have HC:=lh hc;have n0:=hc.c HN0.out;have x1:=hc.c HX1.out;by_cases hlt:k<g.e.length
  ·obtain⟨b,off,rfl,hc0,hc1⟩:=HCE.out k hlt
   have c0:=hc.c (HC1.out.c hc0);have c1:=hc.c (HC1.out.c hc1);have HF:=lh (fun h=>Plain.all_range_false (p:=g.okEdge) hlt h);have HS:=lh (Plain.all_range_succ g.okEdge k);have HR:=lh (show g.okEdge k=!(decide ((g.ends k).1<0) || decide (g.n≤(g.ends k).1) || decide ((g.ends k).2<0) || decide (g.n≤(g.ends k).2)) from rfl);have HCD:=lh hc.drew;have HCF:=lh (HC1.out.t hc.drew);clear hc0 hc1 hc;generalize (g.ends k).1=x at *;generalize (g.ends k).2=y at *;go_wp2;have hS0:(fun w':World=>w'.cell? ⟨w.heap.size,0,none⟩=some (.int .i64 g.n)∧w'.cell? ⟨w.heap.size,1,none⟩=some (.slice (some ⟨b,off,none⟩) g.e.length cap)∧w'.cell? ⟨b,off+k*2,none⟩=some (.int .i64 x)∧w'.cell? ⟨b,off+k*2+1,none⟩=some (.int .i64 y)) wr.drew:=⟨n0,x1,c0,c1⟩;refine wp_region_way (fun w':World=>w'.cell? ⟨w.heap.size,0,none⟩=some (.int .i64 g.n)∧w'.cell? ⟨w.heap.size,1,none⟩=some (.slice (some ⟨b,off,none⟩) g.e.length cap)∧w'.cell? ⟨b,off+k*2,none⟩=some (.int .i64 x)∧w'.cell? ⟨b,off+k*2+1,none⟩=some (.int .i64 y)) [0,1,2,3,4,5,6,7,8,9,10,11,12,13,14,15,16,17,18,19,20,21,22,23,24,25,26,27,28,29,30,31,32,33,34,35,36,37] (Way.line [0,1,2,3,4,5,6,7,8,9,10,11,12,13,14,15,16,17,18,19,20,21,22,23,24,25,26,27,28,29,30,31,32,33,34,35,36,37] .done) (by kernel_rfl) (by kernel_rfl) ?_;simp only[Way.line];by_cases p1:x<0
   ·have q1:decide (x<0)=true:=decide_eq_true p1
    have HE:=lh (HER.out.trans (if_neg (by rw[HF.out (by rw[HR.out];simp[p1])];decide)));clear p1
    repeat
     first
      | (refine along_off rfl (by rfl) (by rfl) (fun _ _ _ h=>h) hS0 ?_;simp only[Act.put,Z1,Z2,Z3,Z4,Z5,Z6])
      | (refine along_read (v:=?_) rfl (by rfl) (by rfl) (fun _ _ _ h=>h) hS0 (fun w' hS'=>?_) ?_;rotate_left;(focus ((try dsimp only at hS');go_simp;try with_reducible rfl));simp only[Act.put,Z1,Z2,Z3,Z4,Z5,Z6])
      | (refine along_skip rfl (by rfl) (by rfl) hS0 ?_;simp only[Act.put,Z1,Z2,Z3,Z4,Z5,Z6])
    refine along_done ?_;clear hS0 n0 c0 c1 x1;go_wp2;go_ret;exact⟨ret_int HE.out.symm,HCF.out⟩
   have q1:decide (x<0)=false:=decide_eq_false p1;by_cases p2:g.n≤x
   ·have q2:decide (x ≥ g.n)=true:=decide_eq_true p2
    have HE:=lh (HER.out.trans (if_neg (by rw[HF.out (by rw[HR.out];simp[p2])];decide)));clear p2
    repeat
     first
      | (refine along_off rfl (by rfl) (by rfl) (fun _ _ _ h=>h) hS0 ?_;simp only[Act.put,Z1,Z2,Z3,Z4,Z5,Z6])
      | (refine along_read (v:=?_) rfl (by rfl) (by rfl) (fun _ _ _ h=>h) hS0 (fun w' hS'=>?_) ?_;rotate_left;(focus ((try dsimp only at hS');go_simp;try with_reducible rfl));simp only[Act.put,Z1,Z2,Z3,Z4,Z5,Z6])
      | (refine along_skip rfl (by rfl) (by rfl) hS0 ?_;simp only[Act.put,Z1,Z2,Z3,Z4,Z5,Z6])
    refine along_done ?_;clear hS0 n0 c0 c1 x1;go_wp2;go_ret;exact⟨ret_int HE.out.symm,HCF.out⟩
   have q2:decide (x ≥ g.n)=false:=decide_eq_false p2;by_cases p3:y<0
   ·have q3:decide (y<0)=true:=decide_eq_true p3
    have HE:=lh (HER.out.trans (if_neg (by rw[HF.out (by rw[HR.out];simp[p3])];decide)));clear p3
    repeat
     first
      | (refine along_off rfl (by rfl) (by rfl) (fun _ _ _ h=>h) hS0 ?_;simp only[Act.put,Z1,Z2,Z3,Z4,Z5,Z6])
      | (refine along_read (v:=?_) rfl (by rfl) (by rfl) (fun _ _ _ h=>h) hS0 (fun w' hS'=>?_) ?_;rotate_left;(focus ((try dsimp only at hS');go_simp;try with_reducible rfl));simp only[Act.put,Z1,Z2,Z3,Z4,Z5,Z6])
      | (refine along_skip rfl (by rfl) (by rfl) hS0 ?_;simp only[Act.put,Z1,Z2,Z3,Z4,Z5,Z6])
    refine along_done ?_;clear hS0 n0 c0 c1 x1;go_wp2;go_ret;exact⟨ret_int HE.out.symm,HCF.out⟩
   have q3:decide (y<0)=false:=decide_eq_false p3;by_cases p4:g.n≤y
   ·have q4:decide (y ≥ g.n)=true:=decide_eq_true p4
    have HE:=lh (HER.out.trans (if_neg (by rw[HF.out (by rw[HR.out];simp[p4])];decide)));clear p4
    repeat
     first
      | (refine along_off rfl (by rfl) (by rfl) (fun _ _ _ h=>h) hS0 ?_;simp only[Act.put,Z1,Z2,Z3,Z4,Z5,Z6])
      | (refine along_read (v:=?_) rfl (by rfl) (by rfl) (fun _ _ _ h=>h) hS0 (fun w' hS'=>?_) ?_;rotate_left;(focus ((try dsimp only at hS');go_simp;try with_reducible rfl));simp only[Act.put,Z1,Z2,Z3,Z4,Z5,Z6])
      | (refine along_skip rfl (by rfl) (by rfl) hS0 ?_;simp only[Act.put,Z1,Z2,Z3,Z4,Z5,Z6])
    refine along_done ?_;clear hS0 n0 c0 c1 x1;go_wp2;go_ret;exact⟨ret_int HE.out.symm,HCF.out⟩
   have q4:decide (y ≥ g.n)=false:=decide_eq_false p4;have HK:=lh (show (List.range (k+1)).all g.okEdge=true by rw[HS.out,HR.out,hall.out];simp[p1,p2,p3,p4]);clear p1 p2 p3 p4
   repeat
    first
     | (refine along_off rfl (by rfl) (by rfl) (fun _ _ _ h=>h) hS0 ?_;simp only[Act.put,Z1,Z2,Z3,Z4,Z5,Z6])
     | (refine along_read (v:=?_) rfl (by rfl) (by rfl) (fun _ _ _ h=>h) hS0 (fun w' hS'=>?_) ?_;rotate_left;(focus ((try dsimp only at hS');go_simp;try with_reducible rfl));simp only[Act.put,Z1,Z2,Z3,Z4,Z5,Z6])
     | (refine along_skip rfl (by rfl) (by rfl) hS0 ?_;simp only[Act.put,Z1,Z2,Z3,Z4,Z5,Z6])
   refine along_done ?_;clear hS0 n0 c0 c1 x1;go_wp2
   go_roundw
   case rel=>exact⟨k+1,by omega,by go_num,HCD.out,HK⟩
   case measure=>simp[intOf];omega
  have e:k=g.e.length:=by omega
  subst e;have HE:=lh (HER.out.trans (if_pos hall.out));have HCF:=lh (HC1.out.t HC.out);clear hc;go_wp2;go_ret;exact⟨ret_int HE.out.symm,HCF.out⟩
set_option maxRecDepth 100000 in
set_option maxHeartbeats 4000000 in
theorem refPart_any (vg vp:Value) (g:Plain.Gr) (p:Plain.Pt) (w:World) (hl:p.v.length<4294967296) (hpl:p.e.length<4294967296) (hgl:g.e.length<4294967296) (hg:GrAt w vg g) (hp:PtAt w vp p) :
  Calls Tryz.prog 13 #[vg,vp] w fun e w'=>e=.returned (.int .i64 (p.err g))∧Chg [] w w':=by
 have HG:=lh hg;obtain⟨eo,cap,rfl,hn,hm,hsm,hcell⟩:=hg;obtain⟨v1,v2,rfl,hv,he⟩:=hp;have HV:=lh hv;have HE:=lh he;obtain⟨ao,ac,rfl,-,-,-⟩:=hv;obtain⟨bo,bc,rfl,hbs,hbm,hbcell⟩:=he;have HCE:=lh hcell;have HBC:=lh hbcell;have HBS:=lh hbs;clear hsm hcell hbcell hbs
 go_enter Tryz.func13,Tryz.ntmps13
 obtain⟨hb1,hb2,hc1⟩:=box_two w #[.int .i64 g.n,.slice eo g.e.length cap] #[.slice ao p.v.length ac,.slice bo p.e.length bc] 24 27;have x0:=(cell_of_row _ _ 0 _ _ _ hb1).trans (show _=some (Value.int .i64 g.n) from rfl);have x1:=(cell_of_row _ _ 1 _ _ _ hb1).trans (show _=some (Value.slice eo g.e.length cap) from rfl);have y0:=(cell_of_row _ _ 0 _ _ _ hb2).trans (show _=some (Value.slice ao p.v.length ac) from rfl);have y1:=(cell_of_row _ _ 1 _ _ _ hb2).trans (show _=some (Value.slice bo p.e.length bc) from rfl);have X0:=lh x0;have X1:=lh x1;have Y0:=lh y0;have Y1:=lh y1;have HC1:=lh hc1;clear hb1 hb2 hc1 x0 x1 y0 y1
 go_wp2_with fail
 refine (refGraph_any _ g _ (by omega) (HG.out.fresh HC1.out)).mono ?_;rintro e w2 ⟨rfl,hc2⟩;have HC2:=lh hc2;generalize ((w.alloc (.cells #[.int .i64 g.n,.slice eo g.e.length cap] 24)).alloc (.cells #[.slice ao p.v.length ac,.slice bo p.e.length bc] 27))=w1 at *;generalize w.heap.size+1=pb at *;generalize w.heap.size=gb at *;clear hc2;by_cases h1:g.err=0
 ·rw[h1]
  have HER:=lh (show p.err g=if !(Plain.rises p.v g.n&&Plain.rises p.e g.e.length) then 4 else if (List.range p.e.length).all (p.okEdge g) then 0 else 4 by unfold Plain.Pt.err;rw[if_neg (by simp[h1])]);have HGE:=lh h1;clear h1;have x0:=HC2.out.c X0.out;have x1:=HC2.out.c X1.out;have y0:=HC2.out.c Y0.out;have y1:=HC2.out.c Y1.out
  go_wp2_with fail
  refine (rises_any _ p.v g.n _ ((HV.out.fresh HC1.out).fresh HC2.out) (by omega)).mono ?_;rintro e w3 ⟨rfl,hc3⟩;have HC3:=lh (HC2.out.t hc3);clear x0 x1 y0 y1 hc3;cases hr:Plain.rises p.v g.n with
  | false =>
   have HE4:=lh (show p.err g=4 by rw[HER.out,hr];rfl);have y1:=HC3.out.c Y1.out;have x1:=HC3.out.c X1.out;clear hr;go_wp2;go_ret;exact⟨ret_int HE4.out.symm,HC1.out.t HC3.out⟩
  | true =>
   have HRV:=lh hr;have y1:=HC3.out.c Y1.out;have x1:=HC3.out.c X1.out;clear hr
   go_wp2_with fail
   refine (rises_any _ p.e g.e.length _ ((HE.out.fresh HC1.out).fresh HC3.out) (by omega)).mono ?_;rintro e w4 ⟨rfl,hc4⟩;have HC4:=lh (HC3.out.t hc4);clear x1 y1 hc4;cases hr:Plain.rises p.e g.e.length with
   | false =>
    have HE4:=lh (show p.err g=4 by rw[HER.out,HRV.out,hr];rfl);clear hr;go_wp2;go_ret;exact⟨ret_int HE4.out.symm,HC1.out.t HC4.out⟩
   | true =>
    have HER2:=lh (show p.err g=if (List.range p.e.length).all (p.okEdge g) then 0 else 4 by rw[HER.out,HRV.out,hr];rfl);have HRE:=lh hr;have HSO:=lh (Plain.rises_pair HRV.out);have y1:=HC4.out.c Y1.out;clear hr HER;go_wp2;clear y1
    go_loopw [6] (fun c wr=>∃ k:Nat,k≤p.e.length∧c=.int .i64 k∧Chg [] w1 wr∧Hid ((List.range k).all (p.okEdge g)=true)) (fun c _=>p.e.length - (intOf c).toNat)
    case atStart=>exact⟨0,Nat.zero_le _,rfl,HC4.out,rfl⟩
    case round =>
     obtain⟨k,hk,rfl,hc,hall⟩:=hrel;have HC:=lh hc;by_cases hlt:k<p.e.length
     ·obtain⟨bb,boff,rfl,hbc⟩:=HBC.out (by intro e;rw[e] at hlt;simp at hlt)
      have ce:=hc.c (HC1.out.c (hbc k hlt));have hre:=Plain.rises_at HRE.out hlt;have HF:=lh (fun h=>Plain.all_range_false (p:=p.okEdge g) hlt h);have HS:=lh (Plain.all_range_succ (p.okEdge g) k);obtain⟨ei,hei⟩:∃ ei:Nat,p.e.getD k 0=(ei:Int):=⟨(p.e.getD k 0).toNat,by omega⟩;rw[hei] at ce hre;have hei2:ei<g.e.length:=by omega
      obtain⟨eb,eoff,rfl,hc0,hc1⟩:=HCE.out ei hei2;obtain⟨ea,hea⟩:∃ ea,(g.ends ei).1=ea:=⟨_,rfl⟩;obtain⟨ez,hez⟩:∃ ez,(g.ends ei).2=ez:=⟨_,rfl⟩;have HR:=lh (show p.okEdge g k=(decide (ea∈p.v)&&decide (ez∈p.v)) by simp only[Plain.Pt.okEdge,hei,Int.toNat_natCast,hea,hez]);rw[hea] at hc0;rw[hez] at hc1;have c0:=HC1.out.c hc0;have c1:=HC1.out.c hc1;have C0:=lh c0;have C1:=lh c1;have HBE:=lh (show ∀ wx,Chg [] w1 wx→wx.cell? ⟨bb,boff+k,none⟩=some (.int .i64 (ei:Int)) from fun wx hx=>by rw[←hei];exact hx.c (HC1.out.c (hbc k hlt)));have y1:=hc.c Y1.out;clear hbc hc hre hei hc0 hc1 c0 c1 hea hez;go_wp2;clear ce y1;have HSA:=lh (fun wx (hx:Chg [] w1 wx)=>(show (fun w':World=>w'.cell? ⟨pb,0,none⟩=some (.slice ao p.v.length ac)∧w'.cell? ⟨gb,1,none⟩=some (.slice (some ⟨eb,eoff,none⟩) g.e.length cap)∧w'.cell? ⟨eb,eoff+ei*2,none⟩=some (.int .i64 ea)∧w'.cell? ⟨eb,eoff+ei*2+1,none⟩=some (.int .i64 ez)∧w'.cell? ⟨pb,1,none⟩=some (.slice (some ⟨bb,boff,none⟩) p.e.length bc)∧w'.cell? ⟨bb,boff+k,none⟩=some (.int .i64 (ei:Int))) wx from⟨hx.c Y0.out,hx.c X1.out,hx.c C0.out,hx.c C1.out,hx.c Y1.out,HBE.out wx hx⟩));have hS0:=HSA.out wr.drew HC.out.drew;refine wp_region_way (fun w':World=>w'.cell? ⟨pb,0,none⟩=some (.slice ao p.v.length ac)∧w'.cell? ⟨gb,1,none⟩=some (.slice (some ⟨eb,eoff,none⟩) g.e.length cap)∧w'.cell? ⟨eb,eoff+ei*2,none⟩=some (.int .i64 ea)∧w'.cell? ⟨eb,eoff+ei*2+1,none⟩=some (.int .i64 ez)∧w'.cell? ⟨pb,1,none⟩=some (.slice (some ⟨bb,boff,none⟩) p.e.length bc)∧w'.cell? ⟨bb,boff+k,none⟩=some (.int .i64 (ei:Int))) [0,1,2,3,4,5,6,7,8,9,10,11,13,14,15,16,17,18,19,20,21,22,23,24,25,26,28,29] (Way.line [0,1,2,3,4,5,6,7,8,9,10,11,12,13,14,15,16,17,18,19,20,21,22,23,24,25,26,27,28,29] .done) (by kernel_rfl) (by kernel_rfl) ?_;simp only[Way.line]
      repeat
       first
        | (refine along_off rfl (by rfl) (by rfl) (fun _ _ _ h=>h) hS0 ?_;simp only[Act.put,Z1,Z2,Z3,Z4,Z5,Z6])
        | (refine along_read (v:=?_) rfl (by rfl) (by rfl) (fun _ _ _ h=>h) hS0 (fun w' hS'=>?_) ?_;rotate_left;(focus ((try dsimp only at hS');go_simp;try with_reducible rfl));simp only[Act.put,Z1,Z2,Z3,Z4,Z5,Z6])
        | (refine along_skip rfl (by rfl) (by rfl) hS0 ?_;simp only[Act.put,Z1,Z2,Z3,Z4,Z5,Z6])
      refine along_op rfl (by rfl) (by rfl) (fun K hK=>?_);go_simp;refine (in_any _ p.v ea _ ((HV.out.fresh HC1.out).fresh HC.out.drew)).mono ?_;rintro e w5 ⟨rfl,hc5⟩;have HC5:=lh (HC.out.drew.t hc5);have hS1:=HSA.out w5 HC5.out;refine hK.out _ _ (fun _=>hS1) ?_;clear hK K hc5 hS0;obtain⟨q1,hq1⟩:∃ q,decide (ea∈p.v)=q:=⟨_,rfl⟩;obtain⟨q2,hq2⟩:∃ q,decide (ez∈p.v)=q:=⟨_,rfl⟩;have HQ2:=lh hq2;rw[hq1,hq2] at HR;rw[hq1];clear hq1 hq2;cases q1 with
      | false =>
       have HE4:=lh (show p.err g=4 by rw[HER2.out,if_neg (by rw[HF.out (by rw[HR.out];rfl)];decide)])
       try simp only[Act.put,Z1,Z2,Z3,Z4,Z5,Z6]
       repeat
        first
         | (refine along_off rfl (by rfl) (by rfl) (fun _ _ _ h=>h) hS1 ?_;simp only[Act.put,Z1,Z2,Z3,Z4,Z5,Z6])
         | (refine along_read (v:=?_) rfl (by rfl) (by rfl) (fun _ _ _ h=>h) hS1 (fun w' hS'=>?_) ?_;rotate_left;(focus ((try dsimp only at hS');go_simp;try with_reducible rfl));simp only[Act.put,Z1,Z2,Z3,Z4,Z5,Z6])
         | (refine along_skip rfl (by rfl) (by rfl) hS1 ?_;simp only[Act.put,Z1,Z2,Z3,Z4,Z5,Z6])
       refine along_done ?_;go_wp2;go_ret;exact⟨ret_int HE4.out.symm,HC1.out.t HC5.out⟩
      | true =>
       try simp only[Act.put,Z1,Z2,Z3,Z4,Z5,Z6]
       repeat
        first
         | (refine along_off rfl (by rfl) (by rfl) (fun _ _ _ h=>h) hS1 ?_;simp only[Act.put,Z1,Z2,Z3,Z4,Z5,Z6])
         | (refine along_read (v:=?_) rfl (by rfl) (by rfl) (fun _ _ _ h=>h) hS1 (fun w' hS'=>?_) ?_;rotate_left;(focus ((try dsimp only at hS');go_simp;try with_reducible rfl));simp only[Act.put,Z1,Z2,Z3,Z4,Z5,Z6])
         | (refine along_skip rfl (by rfl) (by rfl) hS1 ?_;simp only[Act.put,Z1,Z2,Z3,Z4,Z5,Z6])
       refine along_op rfl (by rfl) (by rfl) (fun K hK=>?_);go_simp;refine (in_any _ p.v ez _ ((HV.out.fresh HC1.out).fresh HC5.out)).mono ?_;rintro e w6 ⟨rfl,hc6⟩;have HC6:=lh (HC5.out.t hc6);have hS2:=HSA.out w6 HC6.out;refine hK.out _ _ (fun _=>hS2) ?_;clear hK K hc6 hS1;rw[HQ2.out];cases q2 with
       | false =>
        have HE4:=lh (show p.err g=4 by rw[HER2.out,if_neg (by rw[HF.out (by rw[HR.out];rfl)];decide)])
        try simp only[Act.put,Z1,Z2,Z3,Z4,Z5,Z6]
        repeat
         first
          | (refine along_off rfl (by rfl) (by rfl) (fun _ _ _ h=>h) hS2 ?_;simp only[Act.put,Z1,Z2,Z3,Z4,Z5,Z6])
          | (refine along_read (v:=?_) rfl (by rfl) (by rfl) (fun _ _ _ h=>h) hS2 (fun w' hS'=>?_) ?_;rotate_left;(focus ((try dsimp only at hS');go_simp;try with_reducible rfl));simp only[Act.put,Z1,Z2,Z3,Z4,Z5,Z6])
          | (refine along_skip rfl (by rfl) (by rfl) hS2 ?_;simp only[Act.put,Z1,Z2,Z3,Z4,Z5,Z6])
        refine along_done ?_;go_wp2;go_ret;exact⟨ret_int HE4.out.symm,HC1.out.t HC6.out⟩
       | true =>
        try simp only[Act.put,Z1,Z2,Z3,Z4,Z5,Z6]
        repeat
         first
          | (refine along_off rfl (by rfl) (by rfl) (fun _ _ _ h=>h) hS2 ?_;simp only[Act.put,Z1,Z2,Z3,Z4,Z5,Z6])
          | (refine along_read (v:=?_) rfl (by rfl) (by rfl) (fun _ _ _ h=>h) hS2 (fun w' hS'=>?_) ?_;rotate_left;(focus ((try dsimp only at hS');go_simp;try with_reducible rfl));simp only[Act.put,Z1,Z2,Z3,Z4,Z5,Z6])
          | (refine along_skip rfl (by rfl) (by rfl) hS2 ?_;simp only[Act.put,Z1,Z2,Z3,Z4,Z5,Z6])
        refine along_done ?_;clear hS2;go_wp2
        go_roundw
        case rel=>exact⟨k+1,by omega,by go_num,HC6.out,lh (by rw[HS.out,HR.out,hall.out];rfl)⟩
        case measure=>simp[intOf];omega
     have e:k=p.e.length:=by omega
     subst e;have y1:=HC.out.c Y1.out;have HE0:=lh (HER2.out.trans (if_pos hall.out));go_wp2;go_ret;exact⟨ret_int HE0.out.symm,HC1.out.t HC.out⟩
 have HEQ:=lh (show p.err g=g.err by unfold Plain.Pt.err;rw[if_pos h1]);have hne:(g.err==0)=false:=by rw[beq_eq_false_iff_ne];exact h1
 clear h1;go_wp2;go_ret;exact⟨ret_int HEQ.out.symm,HC1.out.t HC2.out⟩
namespace Plain
def findIx (l:List Int) (x:Int):Int:=if x∈l then (l.idxOf x:Nat) else -1
theorem findIx_hit {l:List Int} {x:Int} {k:Nat} (hk:k<l.length) (h:l.getD k 0=x) (hn:x ∉ l.take k):findIx l x=k:=by
 have hm:x∈l:=by rw[←h];simp[List.getD,hk]
 have hi:=List.idxOf_lt_length_iff.2 hm;unfold findIx;rw[if_pos hm];have h1:¬ l.idxOf x<k:=fun q=>hn (by
  have e:(l.take k)[l.idxOf x]?=some x:=by rw[List.getElem?_take,if_pos q,List.getElem?_eq_getElem hi,List.getElem_idxOf]
  exact List.mem_of_getElem? e)
 have h2:¬ k<l.idxOf x:=fun q=>by
  have:=List.not_of_lt_findIdx (xs:=l) (p:=fun y=>y==x) q;simp[List.getD,hk] at h;simp[h] at this
 omega
theorem findIx_miss {l:List Int} {x:Int} (h:x ∉ l):findIx l x = -1:=if_neg h
end Plain
namespace Plain
theorem findIx_lt {l:List Int} {k:Nat} (hk:k<l.length):findIx l (l.getD k 0)<k↔l.getD k 0∈l.take k:=by
 constructor
 ·intro h
  by_cases q:l.getD k 0∈l.take k
  ·exact q
  rw[findIx_hit hk rfl q] at h;omega
 intro h;obtain⟨i,hi,e⟩:=List.getElem_of_mem h;rw[List.length_take] at hi;rw[List.getElem_take] at e;have hm:l.getD k 0∈l:=by simp[List.getD,hk]
 unfold findIx;rw[if_pos hm];have h2:¬ i<l.idxOf (l.getD k 0):=fun q=>by
  have:=List.not_of_lt_findIdx (xs:=l) (p:=fun y=>y==l.getD k 0) q;simp at this;exact this (by simpa[List.getD,hk] using e)
 omega
theorem nodup_snoc {l:List Int} {k:Nat} (hk:k<l.length):(l.take (k+1)).Nodup↔(l.take k).Nodup∧l.getD k 0 ∉ l.take k:=by
 have e:l.take (k+1)=l.take k++[l.getD k 0]:=by rw[List.take_succ_eq_append_getElem hk];simp[List.getD,hk]
 rw[e,List.nodup_append];constructor
 ·rintro ⟨h1,-,h3⟩
  exact⟨h1,fun h=>h3 _ h _ (by simp) rfl⟩
 rintro ⟨h1,h2⟩;exact⟨h1,by simp,fun x hx y hy e=>h2 (by rw[←List.mem_singleton.1 hy,←e];exact hx)⟩
end Plain
theorem find02_any (v:Value) (l:List Int) (x:Int) (w:World) (h:IntsAt w v l) :
  Calls Tryz.prog 163 #[v,.int .i64 x] w fun e w'=>e=.returned (.int .i64 (Plain.findIx l x))∧Chg [] w w':=by
 obtain⟨ao,cap,rfl,-,hm,hcell⟩:=h;have HCE:=lh hcell;clear hcell
 go_enter Tryz.func163,Tryz.ntmps163
 go_wp2
 go_loopw [5] (fun c wr=>∃ k:Nat,k≤l.length∧c=.int .i64 k∧Chg [] w wr∧Hid (x ∉ l.take k)) (fun c _=>l.length - (intOf c).toNat)
 case atStart=>exact⟨0,Nat.zero_le _,rfl,Chg.refl _ _,lh (by simp)⟩
 case round =>
  obtain⟨k,hk,rfl,hc,hno⟩:=hrel;have HC:=lh hc;by_cases hlt:k<l.length
  ·obtain⟨b,off,rfl,hfc⟩:=HCE.out (by intro e;rw[e] at hlt;simp at hlt)
   have c0:=hc.c (hfc k hlt);have HH:=lh (fun h=>Plain.findIx_hit (x:=x) hlt h hno.out);have HT:=lh (show l.take (k+1)=l.take k++[l.getD k 0] by rw[List.take_succ_eq_append_getElem hlt];simp[List.getD,hlt]);obtain⟨z,hz⟩:∃ z,l.getD k 0=z:=⟨_,rfl⟩;rw[hz] at c0 HH HT;clear hfc hc hz;by_cases e:z=x
   ·have HE:=lh (HH.out e)
    have b1:(z==x)=true:=by rw[beq_iff_eq];exact e
    clear e;go_wp2;go_ret;exact⟨ret_int HE.out.symm,HC.out⟩
   have HN:=lh (show x ∉ l.take (k+1) by rw[HT.out,List.mem_append];rintro (q | q);exact hno.out q;exact e (List.mem_singleton.1 q).symm);have b1:(z==x)=false:=by rw[beq_eq_false_iff_ne];exact e
   clear e;go_wp2
   go_roundw
   case rel=>exact⟨k+1,by omega,by go_num,HC.out,HN⟩
   case measure=>simp[intOf];omega
  have e:k=l.length:=by omega
  subst e;have HE:=lh (Plain.findIx_miss (l:=l) (x:=x) (by have:=hno.out;rwa[List.take_length] at this));clear hc;go_wp2;go_ret;exact⟨ret_int HE.out.symm,HC.out⟩
theorem right02_any (v:Value) (l:List Int) (w:World) (h:IntsAt w v l) :
  Calls Tryz.prog 116 #[v] w fun e w'=>e=.returned (.bool (decide l.Nodup))∧Chg [] w w':=by
 have HI:=lh h;obtain⟨ao,cap,rfl,-,hm,hcell⟩:=h;have HCE:=lh hcell;clear hcell
 go_enter Tryz.func116,Tryz.ntmps116
 go_wp2
 go_loopw [3] (fun c wr=>∃ k:Nat,k≤l.length∧c=.int .i64 k∧Chg [] w wr∧Hid ((l.take k).Nodup)) (fun c _=>l.length - (intOf c).toNat)
 case atStart=>exact⟨0,Nat.zero_le _,rfl,Chg.refl _ _,lh (by simp)⟩
 case round =>
  obtain⟨k,hk,rfl,hc,hno⟩:=hrel;have HC:=lh hc;by_cases hlt:k<l.length
  ·obtain⟨b,off,rfl,hfc⟩:=HCE.out (by intro e;rw[e] at hlt;simp at hlt)
   have c0:=hc.c (hfc k hlt);have HL:=lh (Plain.findIx_lt hlt);have HS:=lh (Plain.nodup_snoc hlt);have HSUB:=lh (fun (h:l.Nodup)=>h.sublist (List.take_sublist (k+1) l));obtain⟨z,hz⟩:∃ z,l.getD k 0=z:=⟨_,rfl⟩;rw[hz] at c0 HL HS;clear hfc hc hz
   go_wp2_with fail
   refine (find02_any _ l z _ (HI.out.fresh HC.out)).mono ?_;rintro e w2 ⟨rfl,hc2⟩;have HC2:=lh (HC.out.t hc2);clear hc2 c0;by_cases q:z∈l.take k
   ·have b1:decide (Plain.findIx l z<(k:Int))=true:=decide_eq_true (HL.out.2 q)
    have HE:=lh (show decide l.Nodup=false from decide_eq_false fun h=>(HS.out.1 (HSUB.out h)).2 q);clear q;go_wp2;go_ret;exact⟨ret_bool HE.out.symm,HC2.out⟩
   have b1:decide (Plain.findIx l z<(k:Int))=false:=decide_eq_false fun h=>q (HL.out.1 h);have HN:=lh (HS.out.2 ⟨hno.out,q⟩);clear q;go_wp2
   go_roundw
   case rel=>exact⟨k+1,by omega,by go_num,HC2.out,HN⟩
   case measure=>simp[intOf];omega
  have e:k=l.length:=by omega
  subst e;have HE:=lh (decide_eq_true (by have:=hno.out;rwa[List.take_length] at this:l.Nodup));clear hc;go_wp2;go_ret;exact⟨ret_bool HE.out.symm,HC.out⟩
end Go.Proofs.YtmhcmnaecpagiaaGreat
namespace Go.Proofs.YtmhcmnaecpagiaaGreat.Plain
theorem rings_next {g:Gr} {p:Pt} {turn:List (List Int)} (hp:PartOk g p) (ht:TurnsOk g p turn):∃ C,Rings (nextDart g turn) C∧C.flatten.Perm p.darts:=by
 obtain⟨h1,h2⟩:=before_rings ht hp.en hp.vn hp.vr;have hA:=twin_rings hp.en;have hl:leaving g p p.v=p.darts:=List.filter_eq_self.2 fun d hd=>decide_eq_true (hp.tail_mem hd).1;have hd:(p.e.map fun e=>[2*e,2*e+1]).flatten=p.darts:=by rw[Pt.darts,List.flatMap_def]
 obtain⟨C,h,k,-⟩:=Rings.mul _ rfl h1 hA (by rw[hd,←hl];exact h2.symm);exact⟨C,h.congr fun x _=>rfl,by rw[hd] at k;exact k⟩
structure Cyc (g:Gr) (p:Pt) (turn:List (List Int)) (d:Int) (l:List Int):Prop where
 ring:Ring (nextDart g turn) (d :: l)
 nodup:(d :: l).Nodup
 sub:∀ x∈d :: l,x∈p.darts
theorem cyc_some {g:Gr} {p:Pt} {turn:List (List Int)} (hp:PartOk g p) (ht:TurnsOk g p turn) {d:Int} (hd:d∈p.darts):∃ l,Cyc g p turn d l:=by
 obtain⟨C,hC,hperm⟩:=rings_next hp ht;obtain⟨c,hc,hdc⟩:=List.mem_flatten.1 (hperm.mem_iff.2 hd);obtain⟨l,hl,hlp⟩:=(hC.ring c hc).from hdc;exact⟨l,hl,hlp.nodup_iff.2 ((nodup_flat.1 hC.nodup).1 c hc),fun x hx=>hperm.mem_iff.1 (List.mem_flatten.2 ⟨c,hc,hlp.mem_iff.1 hx⟩)⟩
theorem Cyc.one {g:Gr} {p:Pt} {turn:List (List Int)} {d:Int} {l m:List Int} (h:Cyc g p turn d l) (k:Cyc g p turn d m):l=m :=
 Trail.det (x:=d) h.ring k.ring (List.nodup_cons.1 h.nodup).1 (List.nodup_cons.1 k.nodup).1
theorem Cyc.turn {g:Gr} {p:Pt} {turn:List (List Int)} {d x:Int} {l:List Int} (h:Cyc g p turn d l) (hx:x∈d :: l):∃ m,Cyc g p turn x m∧(x :: m).Perm (d :: l):=by
 obtain⟨m,hm,hp⟩:=h.ring.from hx;exact⟨m,⟨hm,hp.nodup_iff.2 h.nodup,fun y hy=>h.sub y (hp.mem_iff.1 hy)⟩,hp⟩
open Classical in
noncomputable def cycOf (g:Gr) (p:Pt) (turn:List (List Int)) (d:Int):List Int:=if h:∃ l,Cyc g p turn d l then Classical.choose h else []
theorem cycOf_ok {g:Gr} {p:Pt} {turn:List (List Int)} (hp:PartOk g p) (ht:TurnsOk g p turn) {d:Int} (hd:d∈p.darts):Cyc g p turn d (cycOf g p turn d):=by
 have h:=cyc_some hp ht hd;unfold cycOf;rw[dif_pos h];exact Classical.choose_spec h
theorem ring_at {q:Int→Int} {d:Int} {l:List Int} (h:Ring q (d :: l)) {k:Nat} (hk:k≤l.length):q ((d :: l).getD k 0)=(l++[d]).getD k 0:=by
 have e:=Trail.map (show Trail q d l d from h);have e2:((d :: l).map q)[k]?=(l++[d])[k]?:=by rw[e]
 rw[List.getElem?_map] at e2;have h1:(d :: l)[k]?=some ((d :: l).getD k 0):=by
  rw[List.getElem?_eq_getElem (by simp;omega)];simp[List.getD,List.getElem?_eq_getElem (show k<(d :: l).length by simp;omega)]
 rw[h1,Option.map_some] at e2;unfold List.getD at e2 ⊢;rw[←e2];rfl
noncomputable def minAt (g:Gr) (p:Pt) (turn:List (List Int)) (d:Int):Bool:=(cycOf g p turn d).all fun x=>decide (d<x)
noncomputable def minsTo (g:Gr) (p:Pt) (turn:List (List Int)) (k:Nat):List Face:=((p.darts.take k).filter (minAt g p turn)).map fun d=>(d,d :: cycOf g p turn d)
theorem minsTo_zero (g:Gr) (p:Pt) (turn:List (List Int)):minsTo g p turn 0=[]:=by simp[minsTo]
theorem minsTo_succ {g:Gr} {p:Pt} {turn:List (List Int)} {k:Nat} (hk:k<p.darts.length):minsTo g p turn (k+1)=minsTo g p turn k++if minAt g p turn (p.darts.getD k 0) then [(p.darts.getD k 0,p.darts.getD k 0 :: cycOf g p turn (p.darts.getD k 0))] else []:=by
 unfold minsTo;rw[take_snoc hk,List.filter_append,List.map_append]
 congr 1
 by_cases h:minAt g p turn (p.darts.getD k 0)=true
 ·rw[List.filter_cons_of_pos h,if_pos h];rfl
 rw[List.filter_cons_of_neg h,if_neg h];rfl
theorem minsTo_len (g:Gr) (p:Pt) (turn:List (List Int)) (k:Nat):(minsTo g p turn k).length≤k:=by
 unfold minsTo;rw[List.length_map];exact Nat.le_trans (List.length_filter_le _ _) (by rw[List.length_take];omega)
theorem min_of_mem {g:Gr} {p:Pt} {turn:List (List Int)} {f:Face} {k:Nat} (h:f∈minsTo g p turn k):f.1∈p.darts∧minAt g p turn f.1=true∧f.2=f.1 :: cycOf g p turn f.1:=by
 unfold minsTo at h;obtain⟨d,hd,rfl⟩:=List.mem_map.1 h;obtain⟨h1,h2⟩:=List.mem_filter.1 hd;exact⟨(List.take_sublist _ _).subset h1,h2,rfl⟩
theorem mins_trk {g:Gr} {p:Pt} {turn:List (List Int)} (hp:PartOk g p) (hr:p.e.Pairwise (·<·)) (ht:TurnsOk g p turn):Trk g p turn (minsTo g p turn p.darts.length) p.darts:=by
 have hle:∀ f∈minsTo g p turn p.darts.length,∀ y∈f.2,f.1≤y:=by
  intro f hf y hy;obtain⟨-,h2,h3⟩:=min_of_mem hf;rw[h3] at hy;rcases List.mem_cons.1 hy with q | q
  ·omega
  have:=List.all_eq_true.1 h2 y q;simp at this;omega
 have hcy:∀ f∈minsTo g p turn p.darts.length,Cyc g p turn f.1 (cycOf g p turn f.1):=fun f hf=>cycOf_ok hp ht (min_of_mem hf).1;have hkeys:((minsTo g p turn p.darts.length).map (·.1))=p.darts.filter (minAt g p turn):=by
  unfold minsTo;rw[List.take_length,List.map_map];exact List.map_id' _
 have hdp:=darts_pair hr;have hksub:((minsTo g p turn p.darts.length).map (·.1)).Sublist p.darts:=by rw[hkeys];exact List.filter_sublist
 have hone:∀ f∈minsTo g p turn p.darts.length,∀ f'∈minsTo g p turn p.darts.length,∀ y,y∈f.2→y∈f'.2→f.1=f'.1:=by
  intro f hf f' hf' y hy hy';have h3:=(min_of_mem hf).2.2;have h3':=(min_of_mem hf').2.2;rw[h3] at hy;rw[h3'] at hy';obtain⟨m,hm,hmp⟩:=(hcy f hf).turn hy;obtain⟨m',hm',hmp'⟩:=(hcy f' hf').turn hy';have:=hm.one hm';subst this;have hperm:=hmp.symm.trans hmp';have h1:=hle f hf f'.1 (by rw[h3];exact hperm.mem_iff.2 (by simp));have h2:=hle f' hf' f.1 (by rw[h3'];exact hperm.mem_iff.1 (by simp));omega
 refine⟨⟨fun c hc=>?_,?_⟩,fun x hx=>?_,fun f hf=>⟨_,(min_of_mem hf).2.2⟩,hksub,fun f hf=>?_,fun x hx=>?_⟩
 ·obtain⟨f,hf,rfl⟩:=List.mem_map.1 hc
  rw[(min_of_mem hf).2.2];exact (hcy f hf).ring
 ·rw[nodup_flat]
  refine⟨fun l hl=>?_,?_⟩
  ·obtain⟨f,hf,rfl⟩:=List.mem_map.1 hl
   rw[(min_of_mem hf).2.2];exact (hcy f hf).nodup
  rw[List.pairwise_map];have hkp:(minsTo g p turn p.darts.length).Pairwise fun a b=>a.1<b.1:=by
   have:=hdp.sublist hksub;rwa[List.pairwise_map] at this
  refine hkp.imp_of_mem ?_;intro a b ha hb hab x hx y hy e;subst e;have:=hone a ha b hb x hx hy;omega
 ·obtain⟨c,hc,hxc⟩:=List.mem_flatten.1 hx
  obtain⟨f,hf,rfl⟩:=List.mem_map.1 hc;rw[(min_of_mem hf).2.2] at hxc;exact (hcy f hf).sub x hxc
 ·obtain⟨a,b,e⟩:=List.append_of_mem (min_of_mem hf).1
  refine⟨a,b,e,fun y hy ha=>?_⟩;have h1:=hle f hf y hy;rw[e] at hdp;have:=(List.pairwise_append.1 hdp).2.2 y ha f.1 (by simp);omega
 obtain⟨l,hl⟩:=cyc_some hp ht hx;obtain⟨d,hd,hmin⟩:=exists_least (l:=x :: l) (by simp);obtain⟨m,hm,hmp⟩:=hl.turn hd;have hdd:=hl.sub d hd;have e:=(cycOf_ok hp ht hdd).one hm;have hma:minAt g p turn d=true:=by
  unfold minAt;rw[List.all_eq_true,e];intro y hy;have h1:=hmin y (hmp.mem_iff.1 (by simp[hy]));have h2:d≠y:=fun q=>(List.nodup_cons.1 hm.nodup).1 (q ▸ hy);simp;omega
 refine List.mem_flatten.2 ⟨d :: cycOf g p turn d,List.mem_map.2 ⟨(d,d :: cycOf g p turn d),List.mem_map.2 ⟨d,List.mem_filter.2 ⟨by rw[List.take_length];exact hdd,hma⟩,rfl⟩,rfl⟩,?_⟩;rw[e];exact hmp.mem_iff.2 (by simp)
theorem mins_walks {g:Gr} {p:Pt} {turn:List (List Int)} (hr:p.err g=0) (ht:TurnsOk g p turn):loneAt turn p.v++minsTo g p turn p.darts.length=walksOf g p turn :=
 ((mins_trk (Pt.ok_of_err hr) (rises_pair (Pt.err_ok hr).2.2.1) ht).walks (Pt.ok_of_err hr)).eq hr
end Go.Proofs.YtmhcmnaecpagiaaGreat.Plain
