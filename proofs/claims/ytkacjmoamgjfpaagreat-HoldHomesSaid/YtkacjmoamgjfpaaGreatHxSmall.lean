/- what is small enough to be looked at: contracts of laws 04's, 06's and 08's Small. Conditions: a graph, a part, lists that lie in memory and read so. -/
import Derived.Test.YtkacjmoamgjfpaaGreatHxRow
namespace Go.Proofs.YtkacjmoamgjfpaaGreat
open Go.RowKit Go.Maps
namespace Plain
def small4 (g:Gr) (p:Pt):Bool:=decide (g.e.length≤60)&&decide (p.v.length≤60)&&decide (p.e.length≤60)&&(decide (g.n≤60) || decide (1024<g.n))
def small6 (g:Gr) (p:Pt) (turn:List (List Int)):Bool:=small4 g p&&decide (turn.length≤100)&&(List.range turn.length).all fun i=>decide ((turn.getD i []).length≤200)
def small8 (g:Gr) (p:Pt) (turn same:List (List Int)):Bool:=small6 g p turn&&decide (same.length≤60)&&(List.range same.length).all fun i=>decide ((same.getD i []).length≤60)
end Plain
def bit (b:Bool):Int:=if b then 1 else 0
theorem small4_any (vg vp:Value) (g:Plain.Gr) (p:Plain.Pt) (w:World) (hg:GrAt w vg g) (hp:PtAt w vp p) :
  Calls Tryz.prog 12 #[vg,vp] w fun e w'=>e=.returned (.int .i64 (bit (Plain.small4 g p)))∧Chg [] w w':=by
 obtain⟨eo,cap,rfl,-,hm,-,-⟩:=hg
 obtain⟨v1,v2,rfl,hv,he⟩:=hp
 obtain⟨ao,ac,rfl,-,hvm,-⟩:=hv
 obtain⟨bo,bc,rfl,-,hbm,-⟩:=he
 obtain⟨hb1,hb2,hc1⟩:=box_two w #[.int .i64 g.n,.slice eo g.e.length cap] #[.slice ao p.v.length ac,.slice bo p.e.length bc] 24 29
 have x0:=(cell_of_row _ _ 0 _ _ _ hb1).trans (show _=some (Value.int .i64 g.n) from rfl)
 have x1:=(cell_of_row _ _ 1 _ _ _ hb1).trans (show _=some (Value.slice eo g.e.length cap) from rfl)
 have y0:=(cell_of_row _ _ 0 _ _ _ hb2).trans (show _=some (Value.slice ao p.v.length ac) from rfl)
 have y1:=(cell_of_row _ _ 1 _ _ _ hb2).trans (show _=some (Value.slice bo p.e.length bc) from rfl)
 have HC1:=lh hc1
 clear hb1 hb2 hc1
 have HS:=lh (show Plain.small4 g p=(decide (g.e.length≤60)&&decide (p.v.length≤60)&&decide (p.e.length≤60)&&(decide (g.n≤60) || decide (1024<g.n))) from rfl)
 by_cases h1:g.e.length≤60
 ·by_cases h2:p.v.length≤60
  ·by_cases h3:p.e.length≤60
   ·by_cases h4:g.n≤60
    ·have HB:=lh (show bit (Plain.small4 g p)=1 by rw[HS.out];simp[h1,h2,h3,h4,bit])
     go_enter Tryz.func12,Tryz.ntmps12
     go_wp2
     go_ret
     exact⟨ret_int HB.out.symm,HC1.out⟩
    by_cases h5:1024<g.n
    ·have HB:=lh (show bit (Plain.small4 g p)=1 by rw[HS.out];simp[h1,h2,h3,h5,bit])
     go_enter Tryz.func12,Tryz.ntmps12
     go_wp2
     go_ret
     exact⟨ret_int HB.out.symm,HC1.out⟩
    have HB:=lh (show bit (Plain.small4 g p)=0 by rw[HS.out];simp[h4,h5,bit])
    go_enter Tryz.func12,Tryz.ntmps12
    go_wp2
    go_ret
    exact⟨ret_int HB.out.symm,HC1.out⟩
   have HB:=lh (show bit (Plain.small4 g p)=0 by rw[HS.out];simp[h3,bit])
   go_enter Tryz.func12,Tryz.ntmps12
   go_wp2
   go_ret
   exact⟨ret_int HB.out.symm,HC1.out⟩
  have HB:=lh (show bit (Plain.small4 g p)=0 by rw[HS.out];simp[h2,bit])
  go_enter Tryz.func12,Tryz.ntmps12
  go_wp2
  go_ret
  exact⟨ret_int HB.out.symm,HC1.out⟩
 have HB:=lh (show bit (Plain.small4 g p)=0 by rw[HS.out];simp[h1,bit])
 go_enter Tryz.func12,Tryz.ntmps12
 go_wp2
 go_ret
 exact⟨ret_int HB.out.symm,HC1.out⟩
set_option maxHeartbeats 800000 in
theorem small6_any (vg vp vt:Value) (g:Plain.Gr) (p:Plain.Pt) (turn:List (List Int)) (w:World) (hg:GrAt w vg g) (hp:PtAt w vp p) (ht:RowsAt w vt turn) :
  Calls Tryz.prog 96 #[vg,vp,vt] w fun e w'=>e=.returned (.int .i64 (bit (Plain.small6 g p turn)))∧Chg [] w w':=by
 have HG:=lh hg
 have HP:=lh hp
 obtain⟨eo,cap,rfl,-,hm,-,-⟩:=hg
 obtain⟨v1,v2,rfl,hv,he⟩:=hp
 obtain⟨ao,ac,rfl,-,hvm,-⟩:=hv
 obtain⟨bo,bc,rfl,-,hbm,-⟩:=he
 obtain⟨tto,tc,rfl,htm,htc⟩:=ht
 have HTC:=lh htc
 obtain⟨hb1,hb2,hc1⟩:=box_two w #[.int .i64 g.n,.slice eo g.e.length cap] #[.slice ao p.v.length ac,.slice bo p.e.length bc] 24 29
 have HC1:=lh hc1
 have HS:=lh (show Plain.small6 g p turn=(Plain.small4 g p&&decide (turn.length≤100)&&(List.range turn.length).all fun i=>decide ((turn.getD i []).length≤200)) from rfl)
 clear hb1 hb2 hc1 htc
 go_enter Tryz.func96,Tryz.ntmps96
 go_wp2_with fail
 refine (small4_any _ _ g p _ (HG.out.fresh HC1.out) (HP.out.fresh HC1.out)).mono ?_
 rintro e w2 ⟨rfl,hc2⟩
 have HC2:=lh (HC1.out.trans hc2 (by simp))
 clear hc2
 cases h4:Plain.small4 g p with
 | false =>
  have HB:=lh (show bit (Plain.small6 g p turn)=0 by rw[HS.out,h4];rfl)
  rw[show bit false=0 from rfl]
  go_wp2
  go_ret
  exact⟨ret_int HB.out.symm,HC2.out⟩
 | true =>
  rw[show bit true=1 from rfl]
  by_cases h5:turn.length≤100
  ·have HS2:=lh (show Plain.small6 g p turn=((List.range turn.length).all fun i=>decide ((turn.getD i []).length≤200)) by rw[HS.out,h4,decide_eq_true h5];rfl)
   clear h4 HS
   go_wp2
   go_loopw [7] (fun c wr=>∃ k:Nat,k≤turn.length∧c=.int .i64 k∧Chg [] w wr∧Hid ((List.range k).all (fun i=>decide ((turn.getD i []).length≤200))=true)) (fun c _=>turn.length - (intOf c).toNat)
   case atStart=>exact⟨0,Nat.zero_le _,rfl,HC2.out,rfl⟩
   case round =>
    obtain⟨k,hk,rfl,hc,hall⟩:=hrel
    have HC:=lh hc
    by_cases hlt:k<turn.length
    ·obtain⟨b,off,u,rfl,hcell,-,hints⟩:=HTC.out k hlt
     obtain⟨uo,uc,rfl,-,hul,-⟩:=hints
     have c0:=hc.cell hcell (by simp)
     have HF:=lh (fun h=>Plain.all_range_false (p:=fun i=>decide ((turn.getD i []).length≤200)) hlt h)
     have HSS:=lh (Plain.all_range_succ (fun i=>decide ((turn.getD i []).length≤200)) k)
     clear hcell hc
     generalize (turn.getD k []).length=n at *
     by_cases h6:n≤200
     ·have HK:=lh (show (List.range (k+1)).all (fun i=>decide ((turn.getD i []).length≤200))=true by rw[HSS.out,hall.out];simp[h6])
      go_wp2
      go_roundw
      case rel=>exact⟨k+1,by omega,by go_num,HC.out,HK⟩
      case measure=>simp[intOf];omega
     have HB:=lh (show bit (Plain.small6 g p turn)=0 by rw[HS2.out,HF.out (by simp[h6])];rfl)
     go_wp2
     go_ret
     exact⟨ret_int HB.out.symm,HC.out⟩
    have e:k=turn.length:=by omega
    subst e
    have HB:=lh (show bit (Plain.small6 g p turn)=1 by rw[HS2.out,hall.out];rfl)
    clear hc
    go_wp2
    go_ret
    exact⟨ret_int HB.out.symm,HC.out⟩
  have HB:=lh (show bit (Plain.small6 g p turn)=0 by rw[HS.out,h4,decide_eq_false h5];rfl)
  clear h4 HS
  go_wp2
  go_ret
  exact⟨ret_int HB.out.symm,HC2.out⟩
def PlAt (w:World) (v:Value) (turn same:List (List Int)):Prop:=∃ v1 v2,v=.agg #[v1,v2]∧RowsAt w v1 turn∧RowsAt w v2 same
theorem PlAt.fresh {w w':World} {v:Value} {turn same:List (List Int)} (h:PlAt w v turn same) (hc:Chg [] w w'):PlAt w' v turn same:=by
 obtain⟨v1,v2,e,h1,h2⟩:=h
 exact⟨v1,v2,e,h1.fresh hc,h2.fresh hc⟩
theorem box_three (w:World) (cs ds es:Array Value) (t u x:TypeId):(((w.alloc (.cells cs t)).alloc (.cells ds u)).alloc (.cells es x)).heap[w.heap.size+2]?=some (.cells es x (0,0))∧Chg [] ((w.alloc (.cells cs t)).alloc (.cells ds u)) (((w.alloc (.cells cs t)).alloc (.cells ds u)).alloc (.cells es x)):=by
 refine⟨?_,(Chg.refl [] _).alloc _⟩
 have:=heap_alloc_new ((w.alloc (.cells cs t)).alloc (.cells ds u)) (.cells es x (0,0))
 simpa using this
set_option maxHeartbeats 800000 in
theorem small8_any (vg vp vx:Value) (g:Plain.Gr) (p:Plain.Pt) (turn same:List (List Int)) (w:World) (hg:GrAt w vg g) (hp:PtAt w vp p) (hx:PlAt w vx turn same) :
  Calls Tryz.prog 59 #[vg,vp,vx] w fun e w'=>e=.returned (.int .i64 (bit (Plain.small8 g p turn same)))∧Chg [] w w':=by
 have HG:=lh hg
 have HP:=lh hp
 obtain⟨eo,cap,rfl,-,hm,-,-⟩:=hg
 obtain⟨v1,v2,rfl,hv,he⟩:=hp
 obtain⟨ao,ac,rfl,-,hvm,-⟩:=hv
 obtain⟨bo,bc,rfl,-,hbm,-⟩:=he
 obtain⟨t1,t2,rfl,ht,hs⟩:=hx
 have HT:=lh ht
 obtain⟨tto,tc,rfl,htm,-⟩:=ht
 obtain⟨so,sc,rfl,hsm,hsc⟩:=hs
 have HSC:=lh hsc
 obtain⟨hb1,hb2,hc1⟩:=box_two w #[.int .i64 g.n,.slice eo g.e.length cap] #[.slice ao p.v.length ac,.slice bo p.e.length bc] 24 29
 obtain⟨hb3,hc3⟩:=box_three w #[.int .i64 g.n,.slice eo g.e.length cap] #[.slice ao p.v.length ac,.slice bo p.e.length bc] #[.slice tto turn.length tc,.slice so same.length sc] 24 29 32
 have x0:=(cell_of_row _ _ 0 _ _ _ hb3).trans (show _=some (Value.slice tto turn.length tc) from rfl)
 have x1:=(cell_of_row _ _ 1 _ _ _ hb3).trans (show _=some (Value.slice so same.length sc) from rfl)
 have X1:=lh x1
 have HC1:=lh (hc1.trans hc3 (by simp))
 have HS:=lh (show Plain.small8 g p turn same=(Plain.small6 g p turn&&decide (same.length≤60)&&(List.range same.length).all fun i=>decide ((same.getD i []).length≤60)) from rfl)
 clear hb1 hb2 hb3 hc1 hc3 hsc x1
 go_enter Tryz.func59,Tryz.ntmps59
 go_wp2_with fail
 generalize (((w.alloc (.cells #[.int .i64 g.n,.slice eo g.e.length cap] 24)).alloc (.cells #[.slice ao p.v.length ac,.slice bo p.e.length bc] 29)).alloc (.cells #[.slice tto turn.length tc,.slice so same.length sc] 32))=w1 at *
 refine (small6_any _ _ _ g p turn _ (HG.out.fresh HC1.out) (HP.out.fresh HC1.out) (HT.out.fresh HC1.out)).mono ?_
 rintro e w2 ⟨rfl,hc2⟩
 have HC2:=lh (HC1.out.trans hc2 (by simp))
 have HC21:=lh hc2
 have x1:=hc2.cell X1.out (by simp)
 clear hc2 x0
 cases h4:Plain.small6 g p turn with
 | false =>
  have HB:=lh (show bit (Plain.small8 g p turn same)=0 by rw[HS.out,h4];rfl)
  rw[show bit false=0 from rfl]
  go_wp2
  go_ret
  exact⟨ret_int HB.out.symm,HC2.out⟩
 | true =>
  rw[show bit true=1 from rfl]
  by_cases h5:same.length≤60
  ·have HS2:=lh (show Plain.small8 g p turn same=((List.range same.length).all fun i=>decide ((same.getD i []).length≤60)) by rw[HS.out,h4,decide_eq_true h5];rfl)
   clear h4 HS
   go_wp2
   clear x1
   go_loopw [7] (fun c wr=>∃ k:Nat,k≤same.length∧c=.int .i64 k∧Chg [] w1 wr∧Hid ((List.range k).all (fun i=>decide ((same.getD i []).length≤60))=true)) (fun c _=>same.length - (intOf c).toNat)
   case atStart=>exact⟨0,Nat.zero_le _,rfl,HC21.out,rfl⟩
   case round =>
    obtain⟨k,hk,rfl,hc,hall⟩:=hrel
    have HC:=lh hc
    have x1:=hc.cell X1.out (by simp)
    by_cases hlt:k<same.length
    ·obtain⟨b,off,u,rfl,hcell,-,hints⟩:=HSC.out k hlt
     obtain⟨uo,uc,rfl,-,hul,-⟩:=hints
     have c0:=hc.cell (HC1.out.cell hcell (by simp)) (by simp)
     have HF:=lh (fun h=>Plain.all_range_false (p:=fun i=>decide ((same.getD i []).length≤60)) hlt h)
     have HSS:=lh (Plain.all_range_succ (fun i=>decide ((same.getD i []).length≤60)) k)
     clear hcell hc
     generalize (same.getD k []).length=n at *
     by_cases h6:n≤60
     ·have HK:=lh (show (List.range (k+1)).all (fun i=>decide ((same.getD i []).length≤60))=true by rw[HSS.out,hall.out];simp[h6])
      go_wp2
      go_roundw
      case rel=>exact⟨k+1,by omega,by go_num,HC.out,HK⟩
      case measure=>simp[intOf];omega
     have HB:=lh (show bit (Plain.small8 g p turn same)=0 by rw[HS2.out,HF.out (by simp[h6])];rfl)
     go_wp2
     go_ret
     exact⟨ret_int HB.out.symm,HC1.out.trans HC.out (by simp)⟩
    have e:k=same.length:=by omega
    subst e
    have HB:=lh (show bit (Plain.small8 g p turn same)=1 by rw[HS2.out,hall.out];rfl)
    clear hc
    go_wp2
    go_ret
    exact⟨ret_int HB.out.symm,HC1.out.trans HC.out (by simp)⟩
  have HB:=lh (show bit (Plain.small8 g p turn same)=0 by rw[HS.out,h4,decide_eq_false h5];rfl)
  clear h4 HS
  go_wp2
  go_ret
  exact⟨ret_int HB.out.symm,HC2.out⟩
end Go.Proofs.YtkacjmoamgjfpaaGreat
namespace Go.Proofs.YtkacjmoamgjfpaaGreat
open Go.RowKit Go.Maps
namespace Plain
end Plain
def OutAt (w:World) (B ob:Nat) (V E:List Int):Prop:=∃ v1 v2,w.heap[ob]?=some (.cells #[v1,v2] 29 (0,0))∧RowAt w B v1 V∧RowAt w B v2 E∧(∀ j∈foot v1,j ∉ foot v2)∧B≤ob
theorem OutAt.fresh {w w':World} {B ob:Nat} {V E:List Int} (h:OutAt w B ob V E) (hc:Chg [] w w'):OutAt w' B ob V E:=by
 obtain⟨v1,v2,h1,h2,h3,h4,h5⟩:=h
 exact⟨v1,v2,hc.heap h1 (by simp),h2.chg hc (by simp),h3.chg hc (by simp),h4,h5⟩
end Go.Proofs.YtkacjmoamgjfpaaGreat
