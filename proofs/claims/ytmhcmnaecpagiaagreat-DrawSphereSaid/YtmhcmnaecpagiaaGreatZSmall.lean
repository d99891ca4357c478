/- what is small enough to be looked at: contracts of laws 04's, 06's and 08's Small. Conditions: a graph, a part, lists that lie in memory and read so. -/
import Derived.Test.YtmhcmnaecpagiaaGreatZQueue
namespace Go.Proofs.YtmhcmnaecpagiaaGreat
open Go.RowKit Go.Maps
namespace Plain
def small4 (g:Gr) (p:Pt):Bool:=decide (g.e.length≤60)&&decide (p.v.length≤60)&&decide (p.e.length≤60)&&(decide (g.n≤60) || decide (1024<g.n))
def small6 (g:Gr) (p:Pt) (turn:List (List Int)):Bool:=small4 g p&&decide (turn.length≤100)&&(List.range turn.length).all fun i=>decide ((turn.getD i []).length≤200)
end Plain
def bit (b:Bool):Int:=if b then 1 else 0
theorem small4_any (vg vp:Value) (g:Plain.Gr) (p:Plain.Pt) (w:World) (hg:GrAt w vg g) (hp:PtAt w vp p) :
  Calls Tryz.prog 62 #[vg,vp] w fun e w'=>e=.returned (.int .i64 (bit (Plain.small4 g p)))∧Chg [] w w':=by
 obtain⟨eo,cap,rfl,-,hm,-,-⟩:=hg;obtain⟨v1,v2,rfl,hv,he⟩:=hp;obtain⟨ao,ac,rfl,-,hvm,-⟩:=hv;obtain⟨bo,bc,rfl,-,hbm,-⟩:=he;obtain⟨hb1,hb2,hc1⟩:=box_two w #[.int .i64 g.n,.slice eo g.e.length cap] #[.slice ao p.v.length ac,.slice bo p.e.length bc] 24 27;have x0:=(cell_of_row _ _ 0 _ _ _ hb1).trans (show _=some (Value.int .i64 g.n) from rfl);have x1:=(cell_of_row _ _ 1 _ _ _ hb1).trans (show _=some (Value.slice eo g.e.length cap) from rfl);have y0:=(cell_of_row _ _ 0 _ _ _ hb2).trans (show _=some (Value.slice ao p.v.length ac) from rfl);have y1:=(cell_of_row _ _ 1 _ _ _ hb2).trans (show _=some (Value.slice bo p.e.length bc) from rfl);have HC1:=lh hc1;clear hb1 hb2 hc1;have HS:=lh (show Plain.small4 g p=(decide (g.e.length≤60)&&decide (p.v.length≤60)&&decide (p.e.length≤60)&&(decide (g.n≤60) || decide (1024<g.n))) from rfl);by_cases h1:g.e.length≤60
 ·by_cases h2:p.v.length≤60
  ·by_cases h3:p.e.length≤60
   ·by_cases h4:g.n≤60
    ·have HB:=lh (show bit (Plain.small4 g p)=1 by rw[HS.out];simp[h1,h2,h3,h4,bit])
     go_enter Tryz.func62,Tryz.ntmps62
     go_wp2;go_ret;exact⟨ret_int HB.out.symm,HC1.out⟩
    by_cases h5:1024<g.n
    ·have HB:=lh (show bit (Plain.small4 g p)=1 by rw[HS.out];simp[h1,h2,h3,h5,bit])
     go_enter Tryz.func62,Tryz.ntmps62
     go_wp2;go_ret;exact⟨ret_int HB.out.symm,HC1.out⟩
    have HB:=lh (show bit (Plain.small4 g p)=0 by rw[HS.out];simp[h4,h5,bit])
    go_enter Tryz.func62,Tryz.ntmps62
    go_wp2;go_ret;exact⟨ret_int HB.out.symm,HC1.out⟩
   have HB:=lh (show bit (Plain.small4 g p)=0 by rw[HS.out];simp[h3,bit])
   go_enter Tryz.func62,Tryz.ntmps62
   go_wp2;go_ret;exact⟨ret_int HB.out.symm,HC1.out⟩
  have HB:=lh (show bit (Plain.small4 g p)=0 by rw[HS.out];simp[h2,bit])
  go_enter Tryz.func62,Tryz.ntmps62
  go_wp2;go_ret;exact⟨ret_int HB.out.symm,HC1.out⟩
 have HB:=lh (show bit (Plain.small4 g p)=0 by rw[HS.out];simp[h1,bit])
 go_enter Tryz.func62,Tryz.ntmps62
 go_wp2;go_ret;exact⟨ret_int HB.out.symm,HC1.out⟩
set_option maxHeartbeats 800000 in
theorem small6_any (vg vp vt:Value) (g:Plain.Gr) (p:Plain.Pt) (turn:List (List Int)) (w:World) (hg:GrAt w vg g) (hp:PtAt w vp p) (ht:RowsAt w vt turn) :
  Calls Tryz.prog 29 #[vg,vp,vt] w fun e w'=>e=.returned (.int .i64 (bit (Plain.small6 g p turn)))∧Chg [] w w':=by
 have HG:=lh hg;have HP:=lh hp;obtain⟨eo,cap,rfl,-,hm,-,-⟩:=hg;obtain⟨v1,v2,rfl,hv,he⟩:=hp;obtain⟨ao,ac,rfl,-,hvm,-⟩:=hv;obtain⟨bo,bc,rfl,-,hbm,-⟩:=he;obtain⟨tto,tc,rfl,htm,htc⟩:=ht;have HTC:=lh htc;obtain⟨hb1,hb2,hc1⟩:=box_two w #[.int .i64 g.n,.slice eo g.e.length cap] #[.slice ao p.v.length ac,.slice bo p.e.length bc] 24 27;have HC1:=lh hc1;have HS:=lh (show Plain.small6 g p turn=(Plain.small4 g p&&decide (turn.length≤100)&&(List.range turn.length).all fun i=>decide ((turn.getD i []).length≤200)) from rfl);clear hb1 hb2 hc1 htc
 go_enter Tryz.func29,Tryz.ntmps29
 go_wp2_with fail
 refine (small4_any _ _ g p _ (HG.out.fresh HC1.out) (HP.out.fresh HC1.out)).mono ?_;rintro e w2 ⟨rfl,hc2⟩;have HC2:=lh (HC1.out.t hc2);clear hc2;cases h4:Plain.small4 g p with
 | false =>
  have HB:=lh (show bit (Plain.small6 g p turn)=0 by rw[HS.out,h4];rfl);rw[show bit false=0 from rfl];go_wp2;go_ret;exact⟨ret_int HB.out.symm,HC2.out⟩
 | true =>
  rw[show bit true=1 from rfl];by_cases h5:turn.length≤100
  ·have HS2:=lh (show Plain.small6 g p turn=((List.range turn.length).all fun i=>decide ((turn.getD i []).length≤200)) by rw[HS.out,h4,decide_eq_true h5];rfl)
   clear h4 HS;go_wp2
   go_loopw [7] (fun c wr=>∃ k:Nat,k≤turn.length∧c=.int .i64 k∧Chg [] w wr∧Hid ((List.range k).all (fun i=>decide ((turn.getD i []).length≤200))=true)) (fun c _=>turn.length - (intOf c).toNat)
   case atStart=>exact⟨0,Nat.zero_le _,rfl,HC2.out,rfl⟩
   case round =>
    obtain⟨k,hk,rfl,hc,hall⟩:=hrel;have HC:=lh hc;by_cases hlt:k<turn.length
    ·obtain⟨b,off,u,rfl,hcell,-,hints⟩:=HTC.out k hlt
     obtain⟨uo,uc,rfl,-,hul,-⟩:=hints;have c0:=hc.c hcell;have HF:=lh (fun h=>Plain.all_range_false (p:=fun i=>decide ((turn.getD i []).length≤200)) hlt h);have HSS:=lh (Plain.all_range_succ (fun i=>decide ((turn.getD i []).length≤200)) k);clear hcell hc;generalize (turn.getD k []).length=n at *;by_cases h6:n≤200
     ·have HK:=lh (show (List.range (k+1)).all (fun i=>decide ((turn.getD i []).length≤200))=true by rw[HSS.out,hall.out];simp[h6])
      go_wp2
      go_roundw
      case rel=>exact⟨k+1,by omega,by go_num,HC.out,HK⟩
      case measure=>simp[intOf];omega
     have HB:=lh (show bit (Plain.small6 g p turn)=0 by rw[HS2.out,HF.out (by simp[h6])];rfl);go_wp2;go_ret;exact⟨ret_int HB.out.symm,HC.out⟩
    have e:k=turn.length:=by omega
    subst e;have HB:=lh (show bit (Plain.small6 g p turn)=1 by rw[HS2.out,hall.out];rfl);clear hc;go_wp2;go_ret;exact⟨ret_int HB.out.symm,HC.out⟩
  have HB:=lh (show bit (Plain.small6 g p turn)=0 by rw[HS.out,h4,decide_eq_false h5];rfl);clear h4 HS;go_wp2;go_ret;exact⟨ret_int HB.out.symm,HC2.out⟩
theorem equal_step {a b:List Int} (hl:a.length=b.length):(List.range a.length).all (fun i=>decide (a.getD i 0=b.getD i 0))=decide (a=b):=by
 by_cases h:a=b
 ·subst h
  rw[decide_eq_true rfl,List.all_eq_true];simp
 rw[decide_eq_false h,List.all_eq_false];refine Classical.byContradiction fun q=>h (List.ext_getElem hl fun i h1 h2=>?_);refine Classical.byContradiction fun e=>q ⟨i,List.mem_range.2 h1,?_⟩;simpa[List.getD,h1,h2] using e
theorem equal_any (va vb:Value) (a b:List Int) (w:World) (ha:IntsAt w va a) (hb:IntsAt w vb b) :
  Calls Tryz.prog 28 #[va,vb] w fun e w'=>e=.returned (.bool (decide (a=b)))∧Chg [] w w':=by
 obtain⟨ao,ac,rfl,-,ham,hac⟩:=ha;obtain⟨bo,bc,rfl,-,hbm,hbc⟩:=hb;have HA:=lh hac;have HB:=lh hbc;clear hac hbc;by_cases hl:a.length=b.length
 ·have HE:=lh (equal_step hl)
  have HL:=lh hl;have hb0:((a.length:Int)==(b.length:Int))=true:=by rw[hl];simp
  go_enter Tryz.func28,Tryz.ntmps28
  rw[←hl];clear hb0 hl;go_wp2
  go_loopw [5] (fun c wr=>∃ k:Nat,k≤a.length∧c=.int .i64 k∧Chg [] w wr∧Hid ((List.range k).all (fun i=>decide (a.getD i 0=b.getD i 0))=true)) (fun c _=>a.length - (intOf c).toNat)
  case atStart=>exact⟨0,Nat.zero_le _,rfl,Chg.refl _ _,rfl⟩
  case round =>
   obtain⟨k,hk,rfl,hc,hall⟩:=hrel;have HC:=lh hc;by_cases hlt:k<a.length
   ·obtain⟨ab,aoff,rfl,hac⟩:=HA.out (by intro e;rw[e] at hlt;simp at hlt)
    have hkb:k<b.length:=by have:=HL.out;omega
    obtain⟨bb,boff,rfl,hbc⟩:=HB.out (by intro e;rw[e] at hkb;simp at hkb);have c0:=hc.c (hac k hlt);have c1:=hc.c (hbc k hkb);have HF:=lh (fun h=>Plain.all_range_false (p:=fun i=>decide (a.getD i 0=b.getD i 0)) hlt h);have HS:=lh (Plain.all_range_succ (fun i=>decide (a.getD i 0=b.getD i 0)) k);have HK:=lh (show (decide (a.getD k 0=b.getD k 0))=decide (a.getD k 0=b.getD k 0) from rfl);obtain⟨x,hx⟩:∃ x,a.getD k 0=x:=⟨_,rfl⟩;obtain⟨y,hy⟩:∃ y,b.getD k 0=y:=⟨_,rfl⟩;have HX:=lh hx;have HY:=lh hy;rw[hx] at c0;rw[hy] at c1;clear hac hbc hc hx hy HK;go_wp2;have hS0:(fun w':World=>w'.cell? ⟨ab,aoff+k,none⟩=some (.int .i64 x)∧w'.cell? ⟨bb,boff+k,none⟩=some (.int .i64 y)) wr.drew:=⟨c0,c1⟩;refine wp_region_way (fun w':World=>w'.cell? ⟨ab,aoff+k,none⟩=some (.int .i64 x)∧w'.cell? ⟨bb,boff+k,none⟩=some (.int .i64 y)) [0,1,2,3,4,5,6,7,8] (Way.line [0,1,2,3,4,5,6,7,8] .done) (by kernel_rfl) (by kernel_rfl) ?_;simp only[Way.line]
    repeat
     first
      | (refine along_off rfl (by rfl) (by rfl) (fun _ _ _ h=>h) hS0 ?_;simp only[Act.put,Z1,Z2,Z3,Z4,Z5,Z6])
      | (refine along_read (v:=?_) rfl (by rfl) (by rfl) (fun _ _ _ h=>h) hS0 (fun w' hS'=>?_) ?_;rotate_left;(focus ((try dsimp only at hS');go_simp;try with_reducible rfl));simp only[Act.put,Z1,Z2,Z3,Z4,Z5,Z6])
      | (refine along_skip rfl (by rfl) (by rfl) hS0 ?_;simp only[Act.put,Z1,Z2,Z3,Z4,Z5,Z6])
    refine along_done ?_;have HCD:=lh HC.out.drew;clear hS0 c0 c1;by_cases hxy:x=y
    ·have HK2:=lh (show (List.range (k+1)).all (fun i=>decide (a.getD i 0=b.getD i 0))=true by rw[HS.out,hall.out,HX.out,HY.out];simp[hxy])
     have b1:(x==y)=true:=by rw[beq_iff_eq];exact hxy
     have b2:(x != y)=false:=by simp[hxy]
     clear hxy;go_wp2
     go_roundw
     case rel=>exact⟨k+1,by omega,by go_num,HCD.out,HK2⟩
     case measure=>simp[intOf];omega
    have HE2:=lh (show decide (a=b)=false by rw[←HE.out];exact HF.out (by rw[HX.out,HY.out];exact decide_eq_false hxy));have b1:(x==y)=false:=by rw[beq_eq_false_iff_ne];exact hxy
    have b2:(x != y)=true:=by simp[hxy]
    clear hxy;go_wp2;go_ret;exact⟨ret_bool HE2.out.symm,HCD.out⟩
   have e:k=a.length:=by omega
   subst e;have HE2:=lh (HE.out.symm.trans hall.out);clear hc;go_wp2;go_ret;exact⟨ret_bool HE2.out.symm,HC.out⟩
 have HE:=lh (show decide (a=b)=false from decide_eq_false (fun e=>hl (by rw[e])));have hb0:((a.length:Int)==(b.length:Int))=false:=by rw[beq_eq_false_iff_ne];omega
 go_enter Tryz.func28,Tryz.ntmps28
 go_wp2;go_ret;exact⟨ret_bool HE.out.symm,Chg.refl _ _⟩
namespace Plain
def subV (p:Pt) (l:List Int) (k:Nat):List Int:=(p.v.take k).filter fun v=>decide (v∈l)
def subE (g:Gr) (p:Pt) (l:List Int) (k:Nat):List Int:=(p.e.take k).filter fun e=>decide ((g.at e).1∈l)&&decide ((g.at e).2∈l)
theorem filter_take_succ (f:Int→Bool) {l:List Int} {k:Nat} (hk:k<l.length):(l.take (k+1)).filter f=(l.take k).filter f++(if f (l.getD k 0) then [l.getD k 0] else []):=by
 have e:l.getD k 0=l[k]:=by simp[List.getD,hk]
 rw[List.take_succ_eq_append_getElem hk,List.filter_append,e]
 congr 1
 rw[List.filter_cons,List.filter_nil]
theorem sub_eq (g:Gr) (p:Pt) (l:List Int):p.sub g l=⟨subV p l p.v.length,subE g p l p.e.length⟩:=by
 unfold Pt.sub subV subE;rw[List.take_length,List.take_length]
theorem subV_le (p:Pt) (l:List Int) (k:Nat):(subV p l k).length≤k:=by
 unfold subV;exact Nat.le_trans (List.length_filter_le _ _) (by rw[List.length_take];omega)
end Plain
def OutAt (w:World) (B ob:Nat) (V E:List Int):Prop:=∃ v1 v2,w.heap[ob]?=some (.cells #[v1,v2] 27 (0,0))∧RowAt w B v1 V∧RowAt w B v2 E∧(∀ j∈foot v1,j ∉ foot v2)∧B≤ob
theorem OutAt.fresh {w w':World} {B ob:Nat} {V E:List Int} (h:OutAt w B ob V E) (hc:Chg [] w w'):OutAt w' B ob V E:=by
 obtain⟨v1,v2,h1,h2,h3,h4,h5⟩:=h;exact⟨v1,v2,hc.heap h1 (by simp),h2.chg hc (by simp),h3.chg hc (by simp),h4,h5⟩
set_option maxRecDepth 100000 in
set_option maxHeartbeats 4000000 in
theorem sub_any (vg vp vl:Value) (g:Plain.Gr) (p:Plain.Pt) (l:List Int) (w:World) (hV:p.v.length≤1000000) (hE:p.e.length≤1000000) (hr:p.err g=0) (hg:GrAt w vg g) (hp:PtAt w vp p) (hl:IntsAt w vl l) :
  Calls Tryz.prog 72 #[vg,vp,vl] w fun e w'=>∃ v1 v2,e=.returned (.agg #[v1,v2])∧RowAt w' w.heap.size v1 (p.sub g l).v∧RowAt w' w.heap.size v2 (p.sub g l).e∧(∀ j∈foot v1,j ∉ foot v2)∧Chg [] w w':=by
 have HRE:=lh (Plain.Pt.err_ok hr).2.2.1;have HGE:=lh (Plain.Gr.err_ok (Plain.Pt.err_ok hr).1);have HL:=lh hl;obtain⟨lo,lc,rfl,-,-,-⟩:=hl;obtain⟨eo,cap,rfl,-,hm,hsm,hcell⟩:=hg;obtain⟨v1,v2,rfl,hv,he⟩:=hp;have HVV:=lh hv;obtain⟨ao,ac,rfl,has,-,hacell⟩:=hv;obtain⟨bo,bc,rfl,hbs,hbm,hbcell⟩:=he;have HCE:=lh hcell;have HAC:=lh hacell;have HBC:=lh hbcell;have HAS:=lh has;have HBS:=lh hbs;obtain⟨hb1,hb2,hc1⟩:=box_two w #[.int .i64 g.n,.slice eo g.e.length cap] #[.slice ao p.v.length ac,.slice bo p.e.length bc] 24 27;have X1:=lh ((cell_of_row _ _ 1 _ _ _ hb1).trans (show _=some (Value.slice eo g.e.length cap) from rfl));have Y0:=lh ((cell_of_row _ _ 0 _ _ _ hb2).trans (show _=some (Value.slice ao p.v.length ac) from rfl));have Y1:=lh ((cell_of_row _ _ 1 _ _ _ hb2).trans (show _=some (Value.slice bo p.e.length bc) from rfl));have HC1:=lh hc1;have HPB:=lh hb2;clear hcell hacell hbcell hsm hr hbs has hb1 hb2 hc1;have HC4:=lh (((Chg.refl [] ((w.alloc (.cells #[.int .i64 g.n,.slice eo g.e.length cap] 24)).alloc (.cells #[.slice ao p.v.length ac,.slice bo p.e.length bc] 27))).alloc (.cells #[.slice none 0 0,.slice none 0 0] 27)).alloc (.cells #[.slice none 0 0,.slice none 0 0] 27));obtain⟨hr1,hr2,-⟩:=box_two ((w.alloc (.cells #[.int .i64 g.n,.slice eo g.e.length cap] 24)).alloc (.cells #[.slice ao p.v.length ac,.slice bo p.e.length bc] 27)) #[.slice none 0 0,.slice none 0 0] #[.slice none 0 0,.slice none 0 0] 27 27;have hsz:((w.alloc (.cells #[.int .i64 g.n,.slice eo g.e.length cap] 24)).alloc (.cells #[.slice ao p.v.length ac,.slice bo p.e.length bc] 27)).heap.size=w.heap.size+1+1:=by simp
 rw[hsz] at hr1 hr2;have HR1:=lh hr1;have HO:=lh (show OutAt _ (w.heap.size+1+1) (w.heap.size+1+1+1) (Plain.subV p l 0) [] from⟨_,_,hr2,⟨World.ownsRow_nil _ _ _ _,by simp[Plain.subV],by simp[Plain.subV]⟩,⟨World.ownsRow_nil _ _ _ _,by simp,by simp⟩,by simp[foot,Value.ownBlock],by omega⟩);have HW1:=lh hsz;clear hr1 hr2 hsz
 go_enter Tryz.func72,Tryz.ntmps72
 go_wp2;generalize ((((w.alloc (.cells #[.int .i64 g.n,.slice eo g.e.length cap] 24)).alloc (.cells #[.slice ao p.v.length ac,.slice bo p.e.length bc] 27)).alloc (.cells #[.slice none 0 0,.slice none 0 0] 27)).alloc (.cells #[.slice none 0 0,.slice none 0 0] 27))=w4 at *;generalize ((w.alloc (.cells #[.int .i64 g.n,.slice eo g.e.length cap] 24)).alloc (.cells #[.slice ao p.v.length ac,.slice bo p.e.length bc] 27))=w1 at *
 go_loopw [8] (fun c wr=>∃ k:Nat,k≤p.v.length∧c=.int .i64 k∧OutAt wr (w.heap.size+1+1) (w.heap.size+1+1+1) (Plain.subV p l k) []∧Chg [] w1 wr∧wr.heap[w.heap.size+1+1]?=some (.cells #[.slice none 0 0,.slice none 0 0] 27 (0,0))) (fun c _=>p.v.length - (intOf c).toNat)
 case atStart=>exact⟨0,Nat.zero_le _,rfl,HO.out,HC4.out,HR1.out⟩
 case round =>
  obtain⟨k,hk,rfl,hout,hc,hrb⟩:=hrel;have HC:=lh hc;have HRB:=lh hrb;clear hrb;have HOUT:=lh hout;have y0:=hc.c Y0.out;clear hout;by_cases hlt:k<p.v.length
  ·obtain⟨ab,aoff,rfl,hac⟩:=HAC.out (by intro e;rw[e] at hlt;simp at hlt)
   have ck:=hc.c (HC1.out.c (hac k hlt));have HSU:=lh (Plain.filter_take_succ (fun v=>decide (v∈l)) hlt);have HAB:=lh (World.block_lt_of_cell? w _ (hac k hlt));have hzx:=HAS.out (p.v.getD k 0) (by simp[List.getD,hlt]);obtain⟨x,hx⟩:∃ x,p.v.getD k 0=x:=⟨_,rfl⟩;rw[hx] at ck HSU hzx;clear hac hc hx
   go_wp2_with fail
   refine (in_any _ l x _ ((HL.out.fresh HC1.out).fresh HC.out)).mono ?_;rintro e w5 ⟨rfl,hc5⟩;have HC5:=lh (HC.out.t hc5);have HO5:=lh (HOUT.out.fresh hc5);have HRB5:=lh (hc5.heap HRB.out (by simp));have y05:=hc5.c y0;have ck5:=hc5.c ck;clear hc5 y0 ck;cases hq:decide (x∈l) with
   | false =>
    have HK:=lh (show Plain.subV p l (k+1)=Plain.subV p l k by unfold Plain.subV;rw[HSU.out,if_neg (by rw[hq];decide)];simp);clear hq;go_wp2
    go_roundw
    case rel=>exact⟨k+1,by omega,by go_num,by rw[HK.out];exact HO5.out,HC5.out,HRB5.out⟩
    case measure=>simp[intOf];omega
   | true =>
    have HK:=lh (show Plain.subV p l (k+1)=Plain.subV p l k++[x] by unfold Plain.subV;rw[HSU.out,if_pos (by rw[hq])]);clear hq;obtain⟨u1,u2,ho,hr1,hr2,hap,hBo⟩:=HO5.out;obtain⟨uo,uc,rfl⟩:=hr1.shape;have o0:=(cell_of_row _ _ 0 _ _ _ ho).trans (show _=some (Value.slice uo (Plain.subV p l k).length uc) from rfl);have hpb5:=HC5.out.heap HPB.out (by simp);have n1:w.heap.size+1+1+1 ∉ foot (.slice uo (Plain.subV p l k).length uc):=fun e=>by obtain⟨cs,r,hh⟩:=row_kind hr1 _ e;rw[ho] at hh;simp at hh
    have n2:w.heap.size+1 ∉ foot (.slice uo (Plain.subV p l k).length uc):=fun e=>by obtain⟨cs,r,hh⟩:=row_kind hr1 _ e;rw[hpb5] at hh;simp at hh
    have n3:ab ∉ foot (.slice uo (Plain.subV p l k).length uc):=fun e=>by have:=(hr1.low ab (by rw[←hr1.foot];exact e)).1;have:=HAB.out;omega
    have n4:w.heap.size+1+1+1 ∉ foot u2:=fun e=>by obtain⟨cs,r,hh⟩:=row_kind hr2 _ e;rw[ho] at hh;simp at hh
    have hsl:=Plain.subV_le p l k;have N1:=lh n1;have N2:=lh n2;have N3:=lh n3;have N4:=lh n4;have HO:=lh ho;have H1:=lh hr1;have H2:=lh hr2;have HAP:=lh hap;have HSZ5:=lh (show w.heap.size+1+1≤w5.heap.size by rw[←HW1.out];exact HC5.out.size);clear ho hr1 hr2 hap hBo hpb5 n1 n2 n3 n4;go_wp2;have hS0:(fun w':World=>w'.cell? ⟨w.heap.size+1+1+1,0,none⟩=some (.slice uo (Plain.subV p l k).length uc)∧w'.cell? ⟨w.heap.size+1,0,none⟩=some (.slice (some ⟨ab,aoff,none⟩) p.v.length ac)∧w'.cell? ⟨ab,aoff+k,none⟩=some (.int .i64 x)) w5.drew:=⟨o0,y05,ck5⟩;refine wp_region_way (fun w':World=>w'.cell? ⟨w.heap.size+1+1+1,0,none⟩=some (.slice uo (Plain.subV p l k).length uc)∧w'.cell? ⟨w.heap.size+1,0,none⟩=some (.slice (some ⟨ab,aoff,none⟩) p.v.length ac)∧w'.cell? ⟨ab,aoff+k,none⟩=some (.int .i64 x)) [0,1,2,3,4,5,6,9] (Way.line [0,1,2,3,4,5,6,7,8,9,10] .done) (by kernel_rfl) (by kernel_rfl) ?_;simp only[Way.line]
    repeat
     first
      | (refine along_off rfl (by rfl) (by rfl) (fun _ _ _ h=>h) hS0 ?_;simp only[Act.put,Z1,Z2,Z3,Z4,Z5,Z6])
      | (refine along_read (v:=?_) rfl (by rfl) (by rfl) (fun _ _ _ h=>h) hS0 (fun w' hS'=>?_) ?_;rotate_left;(focus ((try dsimp only at hS');go_simp;try with_reducible rfl));simp only[Act.put,Z1,Z2,Z3,Z4,Z5,Z6])
      | (refine along_skip rfl (by rfl) (by rfl) hS0 ?_;simp only[Act.put,Z1,Z2,Z3,Z4,Z5,Z6])
    refine along_op rfl (by rfl) (by rfl) (fun K hK=>?_);go_simp;have ca:=((Chg.refl [] w5).alloc (.cells #[.int .i64 x] 3)).drew;have CA:=lh ca;have hS1:(fun w':World=>w'.cell? ⟨w.heap.size+1+1+1,0,none⟩=some (.slice uo (Plain.subV p l k).length uc)∧w'.cell? ⟨w.heap.size+1,0,none⟩=some (.slice (some ⟨ab,aoff,none⟩) p.v.length ac)∧w'.cell? ⟨ab,aoff+k,none⟩=some (.int .i64 x)) (w5.alloc (.cells #[.int .i64 x] 3)).drew:=⟨ca.c o0,ca.c y05,ca.c ck5⟩;have HLI:=lh ((lit_ints w5 hzx).fresh (Chg.refl [] _).drew);have HSA:=lh ca.size;refine hK.out _ _ (fun _=>hS1) ?_;clear hK K hS0 ca o0 y05 ck5;generalize (w5.alloc (.cells #[.int .i64 x] 3)).drew=wa at *;generalize w5.heap.size=nl at *
    try simp only[Act.put,Z1,Z2,Z3,Z4,Z5,Z6]
    refine along_op rfl (by rfl) (by rfl) (fun K hK=>?_);simp only[List.getElem_toArray,List.getElem_cons_zero,List.getElem_cons_succ];refine wp_app_readK _ _ rfl (B:=w.heap.size+1+1) rfl rfl (H1.out.chg CA.out (by simp)) HLI.out (Nat.le_trans HSZ5.out HSA.out) (by simp;omega) fun v' w7 r7 c7 f7=>?_;obtain⟨vo,vc,rfl⟩:=r7.shape;have hS2:(fun w':World=>w'.cell? ⟨w.heap.size+1+1+1,0,none⟩=some (.slice uo (Plain.subV p l k).length uc)∧w'.cell? ⟨w.heap.size+1,0,none⟩=some (.slice (some ⟨ab,aoff,none⟩) p.v.length ac)∧w'.cell? ⟨ab,aoff+k,none⟩=some (.int .i64 x)) w7:=⟨c7.cell hS1.1 N1.out,c7.cell hS1.2.1 N2.out,c7.cell hS1.2.2 N3.out⟩;have HO7:=lh (c7.heap (CA.out.heap HO.out (by simp)) N1.out);have o7:=hS2.1;have z7:w7.frozen? ⟨w.heap.size+1+1+1,0,none⟩=false:=by simp[World.frozen?,HO7.out]
    have R7:=lh r7;have C7:=lh c7;have F7:=lh f7;refine hK.out _ _ (fun _=>hS2) ?_;clear hK K hS1 r7 c7 f7
    try simp only[Act.put,List.setIfInBounds_toArray,List.set_cons_zero,List.set_cons_succ]
    repeat
     first
      | (refine along_off rfl (by rfl) (by rfl) (fun _ _ _ h=>h) hS2 ?_;simp only[Act.put,Z1,Z2,Z3,Z4,Z5,Z6])
      | (refine along_read (v:=?_) rfl (by rfl) (by rfl) (fun _ _ _ h=>h) hS2 (fun w' hS'=>?_) ?_;rotate_left;(focus ((try dsimp only at hS');go_simp;try with_reducible rfl));simp only[Act.put,Z1,Z2,Z3,Z4,Z5,Z6])
      | (refine along_skip rfl (by rfl) (by rfl) hS2 ?_;simp only[Act.put,Z1,Z2,Z3,Z4,Z5,Z6])
    have hR:=R7.out;have he:(Plain.subV p l k++[x]).length=(Plain.subV p l k).length+1:=by simp
    rw[he] at hR;have hC7:Chg (foot (.slice uo (Plain.subV p l k).length uc)) wa w7:=C7.out;have hF7:∀ b∈foot (.slice vo ((Plain.subV p l k).length+1) vc),b∈foot (.slice uo (Plain.subV p l k).length uc)∨wa.heap.size≤b:=by have:=F7.out;rw[he] at this;exact this
    have hset:Chg [w.heap.size+1+1+1] w7 (w7.setCell ⟨w.heap.size+1+1+1,0,none⟩ (.slice vo ((Plain.subV p l k).length+1) vc)):=(Chg.refl _ w7).setCell (Or.inl (by simp)) _;have hr2a:=(H2.out.chg CA.out (by simp)).chg hC7 (fun b hb e=>HAP.out b e (by rw[H2.out.foot];exact hb));have kind7:∀ {v:Value} {q:List Int},RowAt w7 (w.heap.size+1+1) v q→∀ b∈v.ownBlock.toList,b ∉ [w.heap.size+1+1+1]:=fun h b hb e=>by
     obtain⟨cs,r,hh⟩:=row_kind h b (by rw[h.foot];exact hb);simp at e;rw[e,HO7.out] at hh;simp at hh
    have hout2:OutAt (w7.setCell ⟨w.heap.size+1+1+1,0,none⟩ (.slice vo ((Plain.subV p l k).length+1) vc)) (w.heap.size+1+1) (w.heap.size+1+1+1) (Plain.subV p l (k+1)) []:=by
     rw[HK.out];refine⟨_,u2,heap_setCell_same HO7.out 0 _,hR.chg hset (kind7 hR),hr2a.chg hset (kind7 hr2a),fun j hj e=>?_,by omega⟩;rcases hF7 j hj with q | q
     ·exact HAP.out j q e
     have:=(H2.out.low j (by rw[←H2.out.foot];exact e)).2;have:=CA.out.size;omega
    have hcf:Chg [] w1 (w7.setCell ⟨w.heap.size+1+1+1,0,none⟩ (.slice vo ((Plain.subV p l k).length+1) vc)):=((HC5.out.t CA.out).trans hC7 (fun j hj=>Or.inr (by rw[HW1.out];exact (H1.out.low j (by rw[←H1.out.foot];exact hj)).1))).trans hset (fun j hj=>Or.inr (by rw[HW1.out];simp at hj;omega));have n5:w.heap.size+1+1 ∉ foot (.slice uo (Plain.subV p l k).length uc):=fun e=>by obtain⟨cs,r,hh⟩:=row_kind H1.out _ e;rw[HRB5.out] at hh;simp at hh
    have HRB7:=lh (hset.heap (hC7.heap (CA.out.heap HRB5.out (by simp)) n5) (by simp));have HOUT2:=lh hout2;have HCF:=lh hcf;clear hR he hC7 hF7 hset hr2a kind7 hout2 hcf n5;refine along_op rfl (by rfl) (by rfl) (fun K hK=>?_);go_simp;refine hK.out _ _ (fun h=>absurd h (Bool.eq_false_iff.1 (by kernel_rfl))) ?_;clear hK K hS2 o7 z7
    try simp only[Act.put,Z1,Z2,Z3,Z4,Z5,Z6]
    refine along_done ?_;go_wp2
    go_roundw
    case rel=>exact⟨k+1,by omega,by go_num,HOUT2.out,HCF.out,HRB7.out⟩
    case measure=>simp[intOf];omega
  have e:k=p.v.length:=by omega
  subst e;clear hc hlt hk;go_wp2;clear y0;have y1:=HC.out.c Y1.out
  go_loopw [9] (fun c wr=>∃ k:Nat,k≤p.e.length∧c=.int .i64 k∧OutAt wr (w.heap.size+1+1) (w.heap.size+1+1+1) (Plain.subV p l p.v.length) (Plain.subE g p l k)∧Chg [] w1 wr∧wr.heap[w.heap.size+1+1]?=some (.cells #[.slice none 0 0,.slice none 0 0] 27 (0,0))) (fun c _=>p.e.length - (intOf c).toNat)
  case atStart=>exact⟨0,Nat.zero_le _,rfl,by simpa[Plain.subE] using HOUT.out,HC.out,HRB.out⟩
  case round =>
   obtain⟨k,hk,rfl,hout,hc,hrb⟩:=hrel;have HC2:=lh hc;have HRB2:=lh hrb;have HOUT2:=lh hout;have y2:=hc.c Y1.out;clear hrb hout y1;by_cases hlt:k<p.e.length
   ·obtain⟨bb,boff,rfl,hbc⟩:=HBC.out (by intro e;rw[e] at hlt;simp at hlt)
    have ce:=hc.c (HC1.out.c (hbc k hlt));have HAB:=lh (World.block_lt_of_cell? w _ (hbc k hlt));have hre:=Plain.rises_at HRE.out hlt;obtain⟨ei,hei⟩:∃ ei:Nat,p.e.getD k 0=(ei:Int):=⟨(p.e.getD k 0).toNat,by omega⟩;have HSU:=lh (Plain.filter_take_succ (fun e=>decide ((g.at e).1∈l)&&decide ((g.at e).2∈l)) hlt);have hzx:I64 (ei:Int):=by rw[←hei];exact HBS.out _ (by simp[List.getD,hlt])
    rw[hei] at ce hre HSU;have hei2:ei<g.e.length:=by omega
    have hglen:g.e.length<4294967296:=by have:=HGE.out.2.2.1;have:=HGE.out.1;omega
    obtain⟨eb,eoff,rfl,hc0,hc1⟩:=HCE.out ei hei2;have c0:=hc.c (HC1.out.c hc0);have c1:=hc.c (HC1.out.c hc1);have x1:=hc.c X1.out;have hat:g.at (ei:Int)=g.ends ei:=by unfold Plain.Gr.at;rw[Int.toNat_natCast]
    rw[hat] at HSU;obtain⟨x,hx⟩:∃ x,(g.ends ei).1=x:=⟨_,rfl⟩;obtain⟨y,hy⟩:∃ y,(g.ends ei).2=y:=⟨_,rfl⟩;rw[hx,hy] at HSU;rw[hx] at c0;rw[hy] at c1;clear hbc hre hei hc0 hc1 hat hx hy hc;go_wp2;have hS0:(fun w':World=>w'.cell? ⟨w.heap.size,1,none⟩=some (.slice (some ⟨eb,eoff,none⟩) g.e.length cap)∧w'.cell? ⟨w.heap.size+1,1,none⟩=some (.slice (some ⟨bb,boff,none⟩) p.e.length bc)∧w'.cell? ⟨bb,boff+k,none⟩=some (.int .i64 (ei:Int))∧w'.cell? ⟨eb,eoff+ei*2,none⟩=some (.int .i64 x)∧w'.cell? ⟨eb,eoff+ei*2+1,none⟩=some (.int .i64 y)) wr.drew:=⟨x1,y2,ce,c0,c1⟩;refine wp_region_way (fun w':World=>w'.cell? ⟨w.heap.size,1,none⟩=some (.slice (some ⟨eb,eoff,none⟩) g.e.length cap)∧w'.cell? ⟨w.heap.size+1,1,none⟩=some (.slice (some ⟨bb,boff,none⟩) p.e.length bc)∧w'.cell? ⟨bb,boff+k,none⟩=some (.int .i64 (ei:Int))∧w'.cell? ⟨eb,eoff+ei*2,none⟩=some (.int .i64 x)∧w'.cell? ⟨eb,eoff+ei*2+1,none⟩=some (.int .i64 y)) [0,1,2,3,4,5,6,7,8] (Way.line [0,1,2,3,4,5,6,7,8,9,10] .done) (by kernel_rfl) (by kernel_rfl) ?_;simp only[Way.line]
    repeat
     first
      | (refine along_off rfl (by rfl) (by rfl) (fun _ _ _ h=>h) hS0 ?_;simp only[Act.put,Z1,Z2,Z3,Z4,Z5,Z6])
      | (refine along_read (v:=?_) rfl (by rfl) (by rfl) (fun _ _ _ h=>h) hS0 (fun w' hS'=>?_) ?_;rotate_left;(focus ((try dsimp only at hS');go_simp;try with_reducible rfl));simp only[Act.put,Z1,Z2,Z3,Z4,Z5,Z6])
      | (refine along_skip rfl (by rfl) (by rfl) hS0 ?_;simp only[Act.put,Z1,Z2,Z3,Z4,Z5,Z6])
    refine along_op rfl (by rfl) (by rfl) (fun K hK=>?_);go_simp;have ca:=((Chg.refl [] wr).alloc (.cells #[.int .i64 0,.int .i64 0] 65)).drew;have hSa:(fun w':World=>w'.cell? ⟨w.heap.size,1,none⟩=some (.slice (some ⟨eb,eoff,none⟩) g.e.length cap)∧w'.cell? ⟨w.heap.size+1,1,none⟩=some (.slice (some ⟨bb,boff,none⟩) p.e.length bc)∧w'.cell? ⟨bb,boff+k,none⟩=some (.int .i64 (ei:Int))∧w'.cell? ⟨eb,eoff+ei*2,none⟩=some (.int .i64 x)∧w'.cell? ⟨eb,eoff+ei*2+1,none⟩=some (.int .i64 y)) (wr.alloc (.cells #[.int .i64 0,.int .i64 0] 65)).drew:=⟨ca.c x1,ca.c y2,ca.c ce,ca.c c0,ca.c c1⟩;refine hK.out _ _ (fun _=>hSa) ?_;clear hK K hSa ca
    try simp only[Act.put,Z1,Z2,Z3,Z4,Z5,Z6]
    refine along_op rfl (by rfl) (by rfl) (fun K hK=>?_);go_simp;have cb:=((Chg.refl [] wr).alloc (.cells #[.int .i64 x,.int .i64 y] 65)).drew;have hSb:(fun w':World=>w'.cell? ⟨w.heap.size,1,none⟩=some (.slice (some ⟨eb,eoff,none⟩) g.e.length cap)∧w'.cell? ⟨w.heap.size+1,1,none⟩=some (.slice (some ⟨bb,boff,none⟩) p.e.length bc)∧w'.cell? ⟨bb,boff+k,none⟩=some (.int .i64 (ei:Int))∧w'.cell? ⟨eb,eoff+ei*2,none⟩=some (.int .i64 x)∧w'.cell? ⟨eb,eoff+ei*2+1,none⟩=some (.int .i64 y)) (wr.alloc (.cells #[.int .i64 x,.int .i64 y] 65)).drew:=⟨cb.c x1,cb.c y2,cb.c ce,cb.c c0,cb.c c1⟩;refine hK.out _ _ (fun _=>hSb) ?_;clear hK K hSb hS0;have n0:(wr.alloc (.cells #[.int .i64 x,.int .i64 y] 65)).drew.cell? ⟨wr.heap.size,0,none⟩=some (.int .i64 x):=(cell_of_row _ _ 0 _ _ _ (heap_alloc_new wr _)).trans rfl;have n1:(wr.alloc (.cells #[.int .i64 x,.int .i64 y] 65)).drew.cell? ⟨wr.heap.size,1,none⟩=some (.int .i64 y):=(cell_of_row _ _ 1 _ _ _ (heap_alloc_new wr _)).trans rfl;have yb:=cb.c y2;have ceb:=cb.c ce;have HCB:=lh (HC2.out.t cb);have HOB:=lh (HOUT2.out.fresh cb);have HRBB:=lh (cb.heap HRB2.out (by simp));clear cb x1 y2 ce c0 c1;generalize (wr.alloc (.cells #[.int .i64 x,.int .i64 y] 65)).drew=wb at *;generalize wr.heap.size=nb at *
    try simp only[Act.put,Z1,Z2,Z3,Z4,Z5,Z6]
    refine along_done ?_
    go_wp2_with fail
    refine (in_any _ l x _ ((HL.out.fresh HC1.out).fresh HCB.out)).mono ?_;rintro e w5 ⟨rfl,hc5⟩;have HC5:=lh (HCB.out.t hc5);have HO5:=lh (HOB.out.fresh hc5);have HRB5:=lh (hc5.heap HRBB.out (by simp));have yb5:=hc5.c yb;have ce5:=hc5.c ceb;have n15:=hc5.c n1;clear hc5 yb ceb n0 n1;cases hq:decide (x∈l) with
    | false =>
     have HK:=lh (show Plain.subE g p l (k+1)=Plain.subE g p l k by unfold Plain.subE;rw[HSU.out,if_neg (by rw[hq];simp)];simp);clear hq;go_wp2
     go_roundw
     case rel=>exact⟨k+1,by omega,by go_num,by rw[HK.out];exact HO5.out,HC5.out,HRB5.out⟩
     case measure=>simp[intOf];omega
    | true =>
     have HQ1:=lh hq;clear hq
     go_wp2_with fail
     refine (in_any _ l y _ ((HL.out.fresh HC1.out).fresh HC5.out)).mono ?_;rintro e w6 ⟨rfl,hc6⟩;have HC6:=lh (HC5.out.t hc6);have HO6:=lh (HO5.out.fresh hc6);have HRB6:=lh (hc6.heap HRB5.out (by simp));have yb6:=hc6.c yb5;have ce6:=hc6.c ce5;clear hc6 yb5 ce5 n15;cases hq:decide (y∈l) with
     | false =>
      have HK:=lh (show Plain.subE g p l (k+1)=Plain.subE g p l k by unfold Plain.subE;rw[HSU.out,if_neg (by rw[hq];simp)];simp);clear hq;go_wp2
      go_roundw
      case rel=>exact⟨k+1,by omega,by go_num,by rw[HK.out];exact HO6.out,HC6.out,HRB6.out⟩
      case measure=>simp[intOf];omega
     | true =>
      have HK:=lh (show Plain.subE g p l (k+1)=Plain.subE g p l k++[(ei:Int)] by unfold Plain.subE;rw[HSU.out,if_pos (by rw[HQ1.out,hq];rfl)]);clear hq;obtain⟨u1,u2,ho,hr1,hr2,hap,hBo⟩:=HO6.out;obtain⟨uo,uc,rfl⟩:=hr2.shape;have o0:=(cell_of_row _ _ 1 _ _ _ ho).trans (show _=some (Value.slice uo (Plain.subE g p l k).length uc) from rfl);have hpb5:=HC6.out.heap HPB.out (by simp);have N1:=lh (show w.heap.size+1+1+1 ∉ foot (.slice uo (Plain.subE g p l k).length uc) from fun e=>by obtain⟨cs,r,hh⟩:=row_kind hr2 _ e;rw[ho] at hh;simp at hh);have N2:=lh (show w.heap.size+1 ∉ foot (.slice uo (Plain.subE g p l k).length uc) from fun e=>by obtain⟨cs,r,hh⟩:=row_kind hr2 _ e;rw[hpb5] at hh;simp at hh);have N3:=lh (show bb ∉ foot (.slice uo (Plain.subE g p l k).length uc) from fun e=>by have:=(hr2.low bb (by rw[←hr2.foot];exact e)).1;have:=HAB.out;omega);have N5:=lh (show w.heap.size+1+1 ∉ foot (.slice uo (Plain.subE g p l k).length uc) from fun e=>by obtain⟨cs,r,hh⟩:=row_kind hr2 _ e;rw[HRB6.out] at hh;simp at hh);have hsl:(Plain.subE g p l k).length≤k:=by unfold Plain.subE;exact Nat.le_trans (List.length_filter_le _ _) (by rw[List.length_take];omega)
      have HO:=lh ho;have H1:=lh hr1;have H2:=lh hr2;have HAP:=lh hap;have HSZ5:=lh (show w.heap.size+1+1≤w6.heap.size by rw[←HW1.out];exact HC6.out.size);clear ho hr1 hr2 hap hBo hpb5;go_wp2;have hS0:(fun w':World=>w'.cell? ⟨w.heap.size+1+1+1,1,none⟩=some (.slice uo (Plain.subE g p l k).length uc)∧w'.cell? ⟨w.heap.size+1,1,none⟩=some (.slice (some ⟨bb,boff,none⟩) p.e.length bc)∧w'.cell? ⟨bb,boff+k,none⟩=some (.int .i64 (ei:Int))) w6.drew:=⟨o0,yb6,ce6⟩;refine wp_region_way (fun w':World=>w'.cell? ⟨w.heap.size+1+1+1,1,none⟩=some (.slice uo (Plain.subE g p l k).length uc)∧w'.cell? ⟨w.heap.size+1,1,none⟩=some (.slice (some ⟨bb,boff,none⟩) p.e.length bc)∧w'.cell? ⟨bb,boff+k,none⟩=some (.int .i64 (ei:Int))) [0,1,2,3,4,5,6,9] (Way.line [0,1,2,3,4,5,6,7,8,9,10] .done) (by kernel_rfl) (by kernel_rfl) ?_;simp only[Way.line]
      repeat
       first
        | (refine along_off rfl (by rfl) (by rfl) (fun _ _ _ h=>h) hS0 ?_;simp only[Act.put,Z1,Z2,Z3,Z4,Z5,Z6])
        | (refine along_read (v:=?_) rfl (by rfl) (by rfl) (fun _ _ _ h=>h) hS0 (fun w' hS'=>?_) ?_;rotate_left;(focus ((try dsimp only at hS');go_simp;try with_reducible rfl));simp only[Act.put,Z1,Z2,Z3,Z4,Z5,Z6])
        | (refine along_skip rfl (by rfl) (by rfl) hS0 ?_;simp only[Act.put,Z1,Z2,Z3,Z4,Z5,Z6])
      refine along_op rfl (by rfl) (by rfl) (fun K hK=>?_);go_simp;have ca:=((Chg.refl [] w6).alloc (.cells #[.int .i64 (ei:Int)] 3)).drew;have CA:=lh ca;have hS1:(fun w':World=>w'.cell? ⟨w.heap.size+1+1+1,1,none⟩=some (.slice uo (Plain.subE g p l k).length uc)∧w'.cell? ⟨w.heap.size+1,1,none⟩=some (.slice (some ⟨bb,boff,none⟩) p.e.length bc)∧w'.cell? ⟨bb,boff+k,none⟩=some (.int .i64 (ei:Int))) (w6.alloc (.cells #[.int .i64 (ei:Int)] 3)).drew:=⟨ca.c o0,ca.c yb6,ca.c ce6⟩;have HLI:=lh ((lit_ints w6 hzx).fresh (Chg.refl [] _).drew);have HSA:=lh ca.size;refine hK.out _ _ (fun _=>hS1) ?_;clear hK K hS0 ca o0 yb6 ce6;generalize (w6.alloc (.cells #[.int .i64 (ei:Int)] 3)).drew=wa at *;generalize w6.heap.size=nl at *
      try simp only[Act.put,Z1,Z2,Z3,Z4,Z5,Z6]
      refine along_op rfl (by rfl) (by rfl) (fun K hK=>?_);simp only[List.getElem_toArray,List.getElem_cons_zero,List.getElem_cons_succ];refine wp_app_readK _ _ rfl (B:=w.heap.size+1+1) rfl rfl (H2.out.chg CA.out (by simp)) HLI.out (Nat.le_trans HSZ5.out HSA.out) (by simp;omega) fun v' w7 r7 c7 f7=>?_;obtain⟨vo,vc,rfl⟩:=r7.shape;have hS2:(fun w':World=>w'.cell? ⟨w.heap.size+1+1+1,1,none⟩=some (.slice uo (Plain.subE g p l k).length uc)∧w'.cell? ⟨w.heap.size+1,1,none⟩=some (.slice (some ⟨bb,boff,none⟩) p.e.length bc)∧w'.cell? ⟨bb,boff+k,none⟩=some (.int .i64 (ei:Int))) w7:=⟨c7.cell hS1.1 N1.out,c7.cell hS1.2.1 N2.out,c7.cell hS1.2.2 N3.out⟩;have HO7:=lh (c7.heap (CA.out.heap HO.out (by simp)) N1.out);have o7:=hS2.1;have z7:w7.frozen? ⟨w.heap.size+1+1+1,1,none⟩=false:=by simp[World.frozen?,HO7.out]
      have hR:=r7;have hC7:Chg (foot (.slice uo (Plain.subE g p l k).length uc)) wa w7:=c7;have hF7:∀ b∈foot (.slice vo (Plain.subE g p l k++[(ei:Int)]).length vc),b∈foot (.slice uo (Plain.subE g p l k).length uc)∨wa.heap.size≤b:=f7;have he:(Plain.subE g p l k++[(ei:Int)]).length=(Plain.subE g p l k).length+1:=by simp
      have HR7:=lh hR;have HC7:=lh hC7;have HF7:=lh hF7;refine hK.out _ _ (fun _=>hS2) ?_;clear hK K hS1 r7 c7 f7 hR hC7 hF7 he
      try simp only[Act.put,List.setIfInBounds_toArray,List.set_cons_zero,List.set_cons_succ]
      repeat
       first
        | (refine along_off rfl (by rfl) (by rfl) (fun _ _ _ h=>h) hS2 ?_;simp only[Act.put,Z1,Z2,Z3,Z4,Z5,Z6])
        | (refine along_read (v:=?_) rfl (by rfl) (by rfl) (fun _ _ _ h=>h) hS2 (fun w' hS'=>?_) ?_;rotate_left;(focus ((try dsimp only at hS');go_simp;try with_reducible rfl));simp only[Act.put,Z1,Z2,Z3,Z4,Z5,Z6])
        | (refine along_skip rfl (by rfl) (by rfl) hS2 ?_;simp only[Act.put,Z1,Z2,Z3,Z4,Z5,Z6])
      have hR:=HR7.out;have hC7:=HC7.out;have hF7:=HF7.out;have he:(Plain.subE g p l k++[(ei:Int)]).length=(Plain.subE g p l k).length+1:=by simp
      rw[he] at hR hF7;have hset:Chg [w.heap.size+1+1+1] w7 (w7.setCell ⟨w.heap.size+1+1+1,1,none⟩ (.slice vo ((Plain.subE g p l k).length+1) vc)):=(Chg.refl _ w7).setCell (Or.inl (by simp)) _;have hr1a:=(H1.out.chg CA.out (by simp)).chg hC7 (fun b hb e=>HAP.out b (by rw[H1.out.foot];exact hb) e);have kind7:∀ {v:Value} {q:List Int},RowAt w7 (w.heap.size+1+1) v q→∀ b∈v.ownBlock.toList,b ∉ [w.heap.size+1+1+1]:=fun h b hb e=>by
       obtain⟨cs,r,hh⟩:=row_kind h b (by rw[h.foot];exact hb);simp at e;rw[e,HO7.out] at hh;simp at hh
      have hout2:OutAt (w7.setCell ⟨w.heap.size+1+1+1,1,none⟩ (.slice vo ((Plain.subE g p l k).length+1) vc)) (w.heap.size+1+1) (w.heap.size+1+1+1) (Plain.subV p l p.v.length) (Plain.subE g p l (k+1)):=by
       rw[HK.out];refine⟨u1,_,heap_setCell_same HO7.out 1 _,hr1a.chg hset (kind7 hr1a),hR.chg hset (kind7 hR),fun j hj e=>?_,by omega⟩;rcases hF7 j e with q | q
       ·exact HAP.out j hj q
       have:=(H1.out.low j (by rw[←H1.out.foot];exact hj)).2;have:=CA.out.size;omega
      have HRB7:=lh (hset.heap (hC7.heap (CA.out.heap HRB6.out (by simp)) N5.out) (by simp));have hcf:Chg [] w1 (w7.setCell ⟨w.heap.size+1+1+1,1,none⟩ (.slice vo ((Plain.subE g p l k).length+1) vc)):=((HC6.out.t CA.out).trans hC7 (fun j hj=>Or.inr (by rw[HW1.out];exact (H2.out.low j (by rw[←H2.out.foot];exact hj)).1))).trans hset (fun j hj=>Or.inr (by rw[HW1.out];simp at hj;omega));have HOUT3:=lh hout2;have HCF:=lh hcf;clear hR he hC7 hF7 hset hr1a kind7 hout2 hcf;refine along_op rfl (by rfl) (by rfl) (fun K hK=>?_);go_simp;refine hK.out _ _ (fun h=>absurd h (Bool.eq_false_iff.1 (by kernel_rfl))) ?_;clear hK K hS2 o7 z7
      try simp only[Act.put,Z1,Z2,Z3,Z4,Z5,Z6]
      refine along_done ?_;go_wp2
      go_roundw
      case rel=>exact⟨k+1,by omega,by go_num,HOUT3.out,HCF.out,HRB7.out⟩
      case measure=>simp[intOf];omega
   have e:k=p.e.length:=by omega
   subst e;obtain⟨u1,u2,ho,hr1,hr2,hap,hBo⟩:=HOUT2.out;obtain⟨a1,q1,rfl⟩:=hr1.shape;obtain⟨a2,q2,rfl⟩:=hr2.shape;have o0:=(cell_of_row _ _ 0 _ _ _ ho).trans (show _=some (Value.slice a1 (Plain.subV p l p.v.length).length q1) from rfl);have o1:=(cell_of_row _ _ 1 _ _ _ ho).trans (show _=some (Value.slice a2 (Plain.subE g p l p.e.length).length q2) from rfl);have r0:=(cell_of_row _ _ 0 _ _ _ HRB2.out).trans (show _=some (Value.slice none 0 0) from rfl);have r1:=(cell_of_row _ _ 1 _ _ _ HRB2.out).trans (show _=some (Value.slice none 0 0) from rfl);have z0:wr.frozen? ⟨w.heap.size+1+1,0,none⟩=false:=by simp[World.frozen?,HRB2.out]
   have z1:wr.frozen? ⟨w.heap.size+1+1,1,none⟩=false:=by simp[World.frozen?,HRB2.out]
   have hset:Chg [w.heap.size+1+1] wr ((wr.setCell ⟨w.heap.size+1+1,0,none⟩ (.slice a1 (Plain.subV p l p.v.length).length q1)).setCell ⟨w.heap.size+1+1,1,none⟩ (.slice a2 (Plain.subE g p l p.e.length).length q2)):=((Chg.refl _ wr).setCell (Or.inl (by simp)) _).setCell (Or.inl (by simp)) _;have hheap:=heap_setCell_same (heap_setCell_same HRB2.out 0 (.slice a1 (Plain.subV p l p.v.length).length q1)) 1 (.slice a2 (Plain.subE g p l p.e.length).length q2);have f0:=(cell_of_row _ _ 0 _ _ _ hheap).trans (show _=some (Value.slice a1 (Plain.subV p l p.v.length).length q1) from rfl);have f1:=(cell_of_row _ _ 1 _ _ _ hheap).trans (show _=some (Value.slice a2 (Plain.subE g p l p.e.length).length q2) from rfl);have kind:∀ {v:Value} {q:List Int},RowAt wr (w.heap.size+1+1) v q→∀ b∈v.ownBlock.toList,b ∉ [w.heap.size+1+1]:=fun h b hb e=>by
    obtain⟨cs,r,hh⟩:=row_kind h b (by rw[h.foot];exact hb);simp at e;rw[e,HRB2.out] at hh;simp at hh
   have HA:=lh ((hr1.chg hset (kind hr1)).base (show w.heap.size≤w.heap.size+1+1 by omega));have HB:=lh ((hr2.chg hset (kind hr2)).base (show w.heap.size≤w.heap.size+1+1 by omega));have HCF:=lh (HC1.out.t (HC2.out.trans hset (fun j hj=>Or.inr (by rw[HW1.out];simp at hj;omega))));have HAP:=lh hap;have HF0:=lh f0;have HF1:=lh f1;have HSE:=lh (Plain.sub_eq g p l);clear ho hr1 hr2 hap hBo hset hheap f0 f1 kind hc;go_wp2;refine bodyPost_ret (v:=.agg #[.slice a1 (Plain.subV p l p.v.length).length q1,.slice a2 (Plain.subE g p l p.e.length).length q2]) (by have h0:=HF0.out;have h1:=HF1.out;simp[results,Tryz.results72,go_sem,h0,h1]) rfl ?_;rw[HSE.out];exact⟨_,_,rfl,HA.out,HB.out,HAP.out,HCF.out⟩
end Go.Proofs.YtmhcmnaecpagiaaGreat
