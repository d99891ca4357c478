/- the document's answer for package walk: the contract of Spread, from one vertex. Conditions: a right part that lies in memory and reads so; a vertex of it. -/
import Derived.Test.YtbkjljffnkdcjaaS9Queue
namespace Go.Proofs.Ytbkjljffnkdcjaa
open Go.RowKit Go.Maps
namespace Plain
structure Met (g:Gr) (p:Pt) (but a:Int) (M:List Int):Prop where
 base:a∈M
 come:∀ u∈M,Come g p but a u
 inV:∀ u∈M,u∈p.v
 nodup:M.Nodup
end Plain
namespace Plain
def small4 (g:Gr) (p:Pt):Bool:=decide (g.e.length≤60)&&decide (p.v.length≤60)&&decide (p.e.length≤60)&&(decide (g.n≤60) || decide (1024<g.n))
def small6 (g:Gr) (p:Pt) (turn:List (List Int)):Bool:=small4 g p&&decide (turn.length≤100)&&(List.range turn.length).all fun i=>decide ((turn.getD i []).length≤200)
end Plain
def bit (b:Bool):Int:=if b then 1 else 0
theorem small4_any (vg vp:Value) (g:Plain.Gr) (p:Plain.Pt) (w:World) (hg:GrAt w vg g) (hp:PtAt w vp p) :
  Calls Try.prog 19 #[vg,vp] w fun e w'=>e=.returned (.int .i64 (bit (Plain.small4 g p)))∧Chg [] w w':=by
 obtain⟨eo,cap,rfl,-,hm,-,-⟩:=hg
 obtain⟨v1,v2,rfl,hv,he⟩:=hp
 obtain⟨ao,ac,rfl,-,hvm,-⟩:=hv
 obtain⟨bo,bc,rfl,-,hbm,-⟩:=he
 obtain⟨hb1,hb2,hc1⟩:=box_two w #[.int .i64 g.n,.slice eo g.e.length cap] #[.slice ao p.v.length ac,.slice bo p.e.length bc] 24 27
 have x0:=(cell_of_row _ _ 0 _ _ _ hb1).trans (show _=some (Value.int .i64 g.n) from rfl)
 have x1:=(cell_of_row _ _ 1 _ _ _ hb1).trans (show _=some (Value.slice eo g.e.length cap) from rfl)
 have y0:=(cell_of_row _ _ 0 _ _ _ hb2).trans (show _=some (Value.slice ao p.v.length ac) from rfl)
 have y1:=(cell_of_row _ _ 1 _ _ _ hb2).trans (show _=some (Value.slice bo p.e.length bc) from rfl)
 have HC1:=lh hc1
 clear hb1 hb2 hc1
 have HS:=lh (show Plain.small4 g p=(decide (g.e.length≤60)&&decide (p.v.length≤60)&&decide (p.e.length≤60)&&(decide (g.n≤60) || decide (1024<g.n))) from rfl)
 by_cases h1:g.e.length≤60
 ·by_cases h2:p.v.length≤60
  ·by_cases h3:p.e.length≤60
   ·by_cases h4:g.n≤60
    ·have HB:=lh (show bit (Plain.small4 g p)=1 by rw[HS.out];simp[h1,h2,h3,h4,bit])
     go_enter Try.func19,Try.ntmps19
     go_wp2
     go_ret
     exact⟨ret_int HB.out.symm,HC1.out⟩
    by_cases h5:1024<g.n
    ·have HB:=lh (show bit (Plain.small4 g p)=1 by rw[HS.out];simp[h1,h2,h3,h5,bit])
     go_enter Try.func19,Try.ntmps19
     go_wp2
     go_ret
     exact⟨ret_int HB.out.symm,HC1.out⟩
    have HB:=lh (show bit (Plain.small4 g p)=0 by rw[HS.out];simp[h4,h5,bit])
    go_enter Try.func19,Try.ntmps19
    go_wp2
    go_ret
    exact⟨ret_int HB.out.symm,HC1.out⟩
   have HB:=lh (show bit (Plain.small4 g p)=0 by rw[HS.out];simp[h3,bit])
   go_enter Try.func19,Try.ntmps19
   go_wp2
   go_ret
   exact⟨ret_int HB.out.symm,HC1.out⟩
  have HB:=lh (show bit (Plain.small4 g p)=0 by rw[HS.out];simp[h2,bit])
  go_enter Try.func19,Try.ntmps19
  go_wp2
  go_ret
  exact⟨ret_int HB.out.symm,HC1.out⟩
 have HB:=lh (show bit (Plain.small4 g p)=0 by rw[HS.out];simp[h1,bit])
 go_enter Try.func19,Try.ntmps19
 go_wp2
 go_ret
 exact⟨ret_int HB.out.symm,HC1.out⟩
set_option maxHeartbeats 800000 in
theorem small6_any (vg vp vt:Value) (g:Plain.Gr) (p:Plain.Pt) (turn:List (List Int)) (w:World) (hg:GrAt w vg g) (hp:PtAt w vp p) (ht:RowsAt w vt turn) :
  Calls Try.prog 10 #[vg,vp,vt] w fun e w'=>e=.returned (.int .i64 (bit (Plain.small6 g p turn)))∧Chg [] w w':=by
 have HG:=lh hg
 have HP:=lh hp
 obtain⟨eo,cap,rfl,-,hm,-,-⟩:=hg
 obtain⟨v1,v2,rfl,hv,he⟩:=hp
 obtain⟨ao,ac,rfl,-,hvm,-⟩:=hv
 obtain⟨bo,bc,rfl,-,hbm,-⟩:=he
 obtain⟨tto,tc,rfl,htm,htc⟩:=ht
 have HTC:=lh htc
 obtain⟨hb1,hb2,hc1⟩:=box_two w #[.int .i64 g.n,.slice eo g.e.length cap] #[.slice ao p.v.length ac,.slice bo p.e.length bc] 24 27
 have HC1:=lh hc1
 have HS:=lh (show Plain.small6 g p turn=(Plain.small4 g p&&decide (turn.length≤100)&&(List.range turn.length).all fun i=>decide ((turn.getD i []).length≤200)) from rfl)
 clear hb1 hb2 hc1 htc
 go_enter Try.func10,Try.ntmps10
 go_wp2_with fail
 refine (small4_any _ _ g p _ (HG.out.fresh HC1.out) (HP.out.fresh HC1.out)).mono ?_
 rintro e w2 ⟨rfl,hc2⟩
 have HC2:=lh (HC1.out.trans hc2 (by simp))
 clear hc2
 cases h4:Plain.small4 g p with
 | false =>
  have HB:=lh (show bit (Plain.small6 g p turn)=0 by rw[HS.out,h4];rfl)
  rw[show bit false=0 from rfl]
  go_wp2
  go_ret
  exact⟨ret_int HB.out.symm,HC2.out⟩
 | true =>
  rw[show bit true=1 from rfl]
  by_cases h5:turn.length≤100
  ·have HS2:=lh (show Plain.small6 g p turn=((List.range turn.length).all fun i=>decide ((turn.getD i []).length≤200)) by rw[HS.out,h4,decide_eq_true h5];rfl)
   clear h4 HS
   go_wp2
   go_loopw [7] (fun c wr=>∃ k:Nat,k≤turn.length∧c=.int .i64 k∧Chg [] w wr∧Hid ((List.range k).all (fun i=>decide ((turn.getD i []).length≤200))=true)) (fun c _=>turn.length - (intOf c).toNat)
   case atStart=>exact⟨0,Nat.zero_le _,rfl,HC2.out,rfl⟩
   case round =>
    obtain⟨k,hk,rfl,hc,hall⟩:=hrel
    have HC:=lh hc
    by_cases hlt:k<turn.length
    ·obtain⟨b,off,u,rfl,hcell,-,hints⟩:=HTC.out k hlt
     obtain⟨uo,uc,rfl,-,hul,-⟩:=hints
     have c0:=hc.cell hcell (by simp)
     have HF:=lh (fun h=>Plain.all_range_false (p:=fun i=>decide ((turn.getD i []).length≤200)) hlt h)
     have HSS:=lh (Plain.all_range_succ (fun i=>decide ((turn.getD i []).length≤200)) k)
     clear hcell hc
     generalize (turn.getD k []).length=n at *
     by_cases h6:n≤200
     ·have HK:=lh (show (List.range (k+1)).all (fun i=>decide ((turn.getD i []).length≤200))=true by rw[HSS.out,hall.out];simp[h6])
      go_wp2
      go_roundw
      case rel=>exact⟨k+1,by omega,by go_num,HC.out,HK⟩
      case measure=>simp[intOf];omega
     have HB:=lh (show bit (Plain.small6 g p turn)=0 by rw[HS2.out,HF.out (by simp[h6])];rfl)
     go_wp2
     go_ret
     exact⟨ret_int HB.out.symm,HC.out⟩
    have e:k=turn.length:=by omega
    subst e
    have HB:=lh (show bit (Plain.small6 g p turn)=1 by rw[HS2.out,hall.out];rfl)
    clear hc
    go_wp2
    go_ret
    exact⟨ret_int HB.out.symm,HC.out⟩
  have HB:=lh (show bit (Plain.small6 g p turn)=0 by rw[HS.out,h4,decide_eq_false h5];rfl)
  clear h4 HS
  go_wp2
  go_ret
  exact⟨ret_int HB.out.symm,HC2.out⟩
theorem equal_step {a b:List Int} (hl:a.length=b.length):(List.range a.length).all (fun i=>decide (a.getD i 0=b.getD i 0))=decide (a=b):=by
 by_cases h:a=b
 ·subst h
  rw[decide_eq_true rfl,List.all_eq_true]
  simp
 rw[decide_eq_false h,List.all_eq_false]
 refine Classical.byContradiction fun q=>h (List.ext_getElem hl fun i h1 h2=>?_)
 refine Classical.byContradiction fun e=>q ⟨i,List.mem_range.2 h1,?_⟩
 simpa[List.getD,h1,h2] using e
theorem equal_any (va vb:Value) (a b:List Int) (w:World) (ha:IntsAt w va a) (hb:IntsAt w vb b) :
  Calls Try.prog 18 #[va,vb] w fun e w'=>e=.returned (.bool (decide (a=b)))∧Chg [] w w':=by
 obtain⟨ao,ac,rfl,-,ham,hac⟩:=ha
 obtain⟨bo,bc,rfl,-,hbm,hbc⟩:=hb
 have HA:=lh hac
 have HB:=lh hbc
 clear hac hbc
 by_cases hl:a.length=b.length
 ·have HE:=lh (equal_step hl)
  have HL:=lh hl
  have hb0:((a.length:Int)==(b.length:Int))=true:=by rw[hl];simp
  go_enter Try.func18,Try.ntmps18
  rw[←hl]
  clear hb0 hl
  go_wp2
  go_loopw [5] (fun c wr=>∃ k:Nat,k≤a.length∧c=.int .i64 k∧Chg [] w wr∧Hid ((List.range k).all (fun i=>decide (a.getD i 0=b.getD i 0))=true)) (fun c _=>a.length - (intOf c).toNat)
  case atStart=>exact⟨0,Nat.zero_le _,rfl,Chg.refl _ _,rfl⟩
  case round =>
   obtain⟨k,hk,rfl,hc,hall⟩:=hrel
   have HC:=lh hc
   by_cases hlt:k<a.length
   ·obtain⟨ab,aoff,rfl,hac⟩:=HA.out (by intro e;rw[e] at hlt;simp at hlt)
    have hkb:k<b.length:=by have:=HL.out;omega
    obtain⟨bb,boff,rfl,hbc⟩:=HB.out (by intro e;rw[e] at hkb;simp at hkb)
    have c0:=hc.cell (hac k hlt) (by simp)
    have c1:=hc.cell (hbc k hkb) (by simp)
    have HF:=lh (fun h=>Plain.all_range_false (p:=fun i=>decide (a.getD i 0=b.getD i 0)) hlt h)
    have HS:=lh (Plain.all_range_succ (fun i=>decide (a.getD i 0=b.getD i 0)) k)
    have HK:=lh (show (decide (a.getD k 0=b.getD k 0))=decide (a.getD k 0=b.getD k 0) from rfl)
    obtain⟨x,hx⟩:∃ x,a.getD k 0=x:=⟨_,rfl⟩
    obtain⟨y,hy⟩:∃ y,b.getD k 0=y:=⟨_,rfl⟩
    have HX:=lh hx
    have HY:=lh hy
    rw[hx] at c0
    rw[hy] at c1
    clear hac hbc hc hx hy HK
    go_wp2
    have hS0:(fun w':World=>w'.cell? ⟨ab,aoff+k,none⟩=some (.int .i64 x)∧w'.cell? ⟨bb,boff+k,none⟩=some (.int .i64 y)) wr.drew:=⟨c0,c1⟩
    refine wp_region_way (fun w':World=>w'.cell? ⟨ab,aoff+k,none⟩=some (.int .i64 x)∧w'.cell? ⟨bb,boff+k,none⟩=some (.int .i64 y)) [0,1,2,3,4,5,6,7,8] (Way.line [0,1,2,3,4,5,6,7,8] .done) (by kernel_rfl) (by kernel_rfl) ?_
    simp only[Way.line]
    repeat
     first
      | (refine along_off rfl (by rfl) (by rfl) (fun _ _ _ h=>h) hS0 ?_;simp only[Act.put,Z1,Z2,Z3,Z4,Z5,Z6])
      | (refine along_read (v:=?_) rfl (by rfl) (by rfl) (fun _ _ _ h=>h) hS0 (fun w' hS'=>?_) ?_;rotate_left;(focus ((try dsimp only at hS');go_simp;try with_reducible rfl));simp only[Act.put,Z1,Z2,Z3,Z4,Z5,Z6])
      | (refine along_skip rfl (by rfl) (by rfl) hS0 ?_;simp only[Act.put,Z1,Z2,Z3,Z4,Z5,Z6])
    refine along_done ?_
    have HCD:=lh HC.out.drew
    clear hS0 c0 c1
    by_cases hxy:x=y
    ·have HK2:=lh (show (List.range (k+1)).all (fun i=>decide (a.getD i 0=b.getD i 0))=true by rw[HS.out,hall.out,HX.out,HY.out];simp[hxy])
     have b1:(x==y)=true:=by rw[beq_iff_eq];exact hxy
     have b2:(x != y)=false:=by simp[hxy]
     clear hxy
     go_wp2
     go_roundw
     case rel=>exact⟨k+1,by omega,by go_num,HCD.out,HK2⟩
     case measure=>simp[intOf];omega
    have HE2:=lh (show decide (a=b)=false by rw[←HE.out];exact HF.out (by rw[HX.out,HY.out];exact decide_eq_false hxy))
    have b1:(x==y)=false:=by rw[beq_eq_false_iff_ne];exact hxy
    have b2:(x != y)=true:=by simp[hxy]
    clear hxy
    go_wp2
    go_ret
    exact⟨ret_bool HE2.out.symm,HCD.out⟩
   have e:k=a.length:=by omega
   subst e
   have HE2:=lh (HE.out.symm.trans hall.out)
   clear hc
   go_wp2
   go_ret
   exact⟨ret_bool HE2.out.symm,HC.out⟩
 have HE:=lh (show decide (a=b)=false from decide_eq_false (fun e=>hl (by rw[e])))
 have hb0:((a.length:Int)==(b.length:Int))=false:=by rw[beq_eq_false_iff_ne];omega
 go_enter Try.func18,Try.ntmps18
 go_wp2
 go_ret
 exact⟨ret_bool HE.out.symm,Chg.refl _ _⟩
namespace Plain
theorem filter_take_succ (f:Int→Bool) {l:List Int} {k:Nat} (hk:k<l.length):(l.take (k+1)).filter f=(l.take k).filter f++(if f (l.getD k 0) then [l.getD k 0] else []):=by
 have e:l.getD k 0=l[k]:=by simp[List.getD,hk]
 rw[List.take_succ_eq_append_getElem hk,List.filter_append,e]
 congr 1
 rw[List.filter_cons,List.filter_nil]
end Plain
def OutAt (w:World) (B ob:Nat) (V E:List Int):Prop:=∃ v1 v2,w.heap[ob]?=some (.cells #[v1,v2] 27 (0,0))∧RowAt w B v1 V∧RowAt w B v2 E∧(∀ j∈foot v1,j ∉ foot v2)∧B≤ob
end Go.Proofs.Ytbkjljffnkdcjaa
