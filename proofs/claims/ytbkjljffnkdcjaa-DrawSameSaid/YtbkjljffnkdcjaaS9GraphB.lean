/- package graph: contracts of Has, RightPart. Conditions: a graph and a part that lie in memory and read so; a list that rises. -/
import Derived.Test.YtbkjljffnkdcjaaS9Lin
namespace Go.Proofs.Ytbkjljffnkdcjaa
open Go.RowKit Go.Maps
theorem Chg.drewN {own:List Nat} {a w:World} (h:Chg own a w) (q:Nat):Chg own a (w.drewN q):=by
 induction q with
 | zero=>exact h
 | succ q ih=>exact ih.drew
theorem box_two (w:World) (cs ds:Array Value) (t u:TypeId):((w.alloc (.cells cs t)).alloc (.cells ds u)).heap[w.heap.size]?=some (.cells cs t (0,0))∧((w.alloc (.cells cs t)).alloc (.cells ds u)).heap[w.heap.size+1]?=some (.cells ds u (0,0))∧Chg [] w ((w.alloc (.cells cs t)).alloc (.cells ds u)):=by
 have hc:=((Chg.refl [] (w.alloc (.cells cs t))).alloc (.cells ds u))
 refine⟨hc.heap (heap_alloc_new w _) (by simp),?_,((Chg.refl [] w).alloc _).alloc _⟩
 have:=heap_alloc_new (w.alloc (.cells cs t)) (.cells ds u (0,0))
 simpa using this
theorem has_any (v:Value) (l:List Int) (x:Int) (w:World) (hs:l.Pairwise (·<·)) (hl:l.length<4611686018427387904) (h:IntsAt w v l) :
  Calls Try.prog 22 #[v,.int .i64 x] w fun e w'=>e=.returned (.bool (decide (x∈l)))∧Chg [] w w':=by
 obtain⟨ao,cap,rfl,hsm,hm,hcell⟩:=h
 go_enter Try.func22,Try.ntmps22
 cases l with
 | nil =>
  go_wp2_with (go_at_call 41;refine (Try.slices_BinarySearch_int_empty ao cap x _).mono ?_;rintro e w1 ⟨rfl,rfl⟩)
  go_ret
  exact⟨ret_bool (by simp),Chg.refl _ _⟩
 | cons y r =>
  obtain⟨b,off,rfl,hc⟩:=hcell (by simp)
  have HS:=lh (show ((y :: r).take (y :: r).length).Pairwise (·≤·) by rw[List.take_length];exact hs.imp (fun h=>by omega))
  have HC:=lh hc
  have HL:=lh hl
  have HT:=lh (show ((y :: r).take (y :: r).length).contains x=decide (x∈y :: r) by rw[List.take_length];simp)
  clear hs hc hcell hsm
  generalize y :: r=l at *
  go_wp2_with (go_at_call 41;refine (Try.slices_BinarySearch_int b off l.length cap l x _ (Nat.le_refl _) HL.out HC.out HS.out).mono ?_;rintro e w1 ⟨rfl,q,rfl⟩)
  go_ret
  exact⟨rfl,(Chg.refl [] w).drewN q⟩
set_option maxHeartbeats 800000 in
theorem rightPart_any (vg vp:Value) (g:Plain.Gr) (p:Plain.Pt) (w:World) (hl:p.v.length<4611686018427387904) (hg:GrAt w vg g) (hp:PtAt w vp p) :
  Calls Try.prog 11 #[vg,vp] w fun e w'=>e=.returned (.int .i64 (p.err g))∧Chg [] w w':=by
 have HG:=lh hg
 obtain⟨eo,cap,rfl,hn,hm,hsm,hcell⟩:=hg
 obtain⟨v1,v2,rfl,hv,he⟩:=hp
 have HV:=lh hv
 have HE:=lh he
 obtain⟨ao,ac,rfl,-,-,-⟩:=hv
 obtain⟨bo,bc,rfl,hbs,hbm,hbcell⟩:=he
 have HCE:=lh hcell
 have HBC:=lh hbcell
 have HBS:=lh hbs
 clear hsm hcell hbcell hbs
 go_enter Try.func11,Try.ntmps11
 obtain⟨hb1,hb2,hc1⟩:=box_two w #[.int .i64 g.n,.slice eo g.e.length cap] #[.slice ao p.v.length ac,.slice bo p.e.length bc] 24 27
 have x0:=(cell_of_row _ _ 0 _ _ _ hb1).trans (show _=some (Value.int .i64 g.n) from rfl)
 have x1:=(cell_of_row _ _ 1 _ _ _ hb1).trans (show _=some (Value.slice eo g.e.length cap) from rfl)
 have y0:=(cell_of_row _ _ 0 _ _ _ hb2).trans (show _=some (Value.slice ao p.v.length ac) from rfl)
 have y1:=(cell_of_row _ _ 1 _ _ _ hb2).trans (show _=some (Value.slice bo p.e.length bc) from rfl)
 have X0:=lh x0
 have X1:=lh x1
 have Y0:=lh y0
 have Y1:=lh y1
 have HC1:=lh hc1
 clear hb1 hb2 hc1 x0 x1 y0 y1
 go_wp2_with fail
 refine (graphRight_any _ g _ (HG.out.fresh HC1.out)).mono ?_
 rintro e w2 ⟨rfl,hc2⟩
 have HC2:=lh hc2
 generalize ((w.alloc (.cells #[.int .i64 g.n,.slice eo g.e.length cap] 24)).alloc (.cells #[.slice ao p.v.length ac,.slice bo p.e.length bc] 27))=w1 at *
 generalize w.heap.size+1=pb at *
 generalize w.heap.size=gb at *
 clear hc2
 by_cases h1:g.err=0
 ·rw[h1]
  have HER:=lh (show p.err g=if !(Plain.rises p.v g.n&&Plain.rises p.e g.e.length) then 4 else if (List.range p.e.length).all (p.okEdge g) then 0 else 4 by unfold Plain.Pt.err;rw[if_neg (by simp[h1])])
  have HGE:=lh h1
  clear h1
  have x0:=HC2.out.cell X0.out (by simp)
  have x1:=HC2.out.cell X1.out (by simp)
  have y0:=HC2.out.cell Y0.out (by simp)
  have y1:=HC2.out.cell Y1.out (by simp)
  go_wp2_with fail
  refine (rising_any _ p.v g.n _ hn ((HV.out.fresh HC1.out).fresh HC2.out)).mono ?_
  rintro e w3 ⟨rfl,hc3⟩
  have HC3:=lh (HC2.out.trans hc3 (by simp))
  clear x0 x1 y0 y1 hc3
  cases hr:Plain.rises p.v g.n with
  | false =>
   have HE4:=lh (show p.err g=4 by rw[HER.out,hr];rfl)
   have y1:=HC3.out.cell Y1.out (by simp)
   have x1:=HC3.out.cell X1.out (by simp)
   clear hr
   go_wp2
   go_ret
   exact⟨ret_int HE4.out.symm,HC1.out.trans HC3.out (by simp)⟩
  | true =>
   have HRV:=lh hr
   have y1:=HC3.out.cell Y1.out (by simp)
   have x1:=HC3.out.cell X1.out (by simp)
   clear hr
   go_wp2_with fail
   refine (rising_any _ p.e g.e.length _ (I64.mk (by omega) (by omega)) ((HE.out.fresh HC1.out).fresh HC3.out)).mono ?_
   rintro e w4 ⟨rfl,hc4⟩
   have HC4:=lh (HC3.out.trans hc4 (by simp))
   clear x1 y1 hc4
   cases hr:Plain.rises p.e g.e.length with
   | false =>
    have HE4:=lh (show p.err g=4 by rw[HER.out,HRV.out,hr];rfl)
    clear hr
    go_wp2
    go_ret
    exact⟨ret_int HE4.out.symm,HC1.out.trans HC4.out (by simp)⟩
   | true =>
    have HER2:=lh (show p.err g=if (List.range p.e.length).all (p.okEdge g) then 0 else 4 by rw[HER.out,HRV.out,hr];rfl)
    have HRE:=lh hr
    have HSO:=lh (Plain.rises_pair HRV.out)
    have y1:=HC4.out.cell Y1.out (by simp)
    clear hr HER
    go_wp2
    clear y1
    go_loopw [31] (fun c wr=>∃ k:Nat,k≤p.e.length∧c=.int .i64 k∧Chg [] w1 wr∧Hid ((List.range k).all (p.okEdge g)=true)) (fun c _=>p.e.length - (intOf c).toNat)
    case atStart=>exact⟨0,Nat.zero_le _,rfl,HC4.out,rfl⟩
    case round =>
     obtain⟨k,hk,rfl,hc,hall⟩:=hrel
     have HC:=lh hc
     by_cases hlt:k<p.e.length
     ·obtain⟨bb,boff,rfl,hbc⟩:=HBC.out (by intro e;rw[e] at hlt;simp at hlt)
      have ce:=hc.cell (HC1.out.cell (hbc k hlt) (by simp)) (by simp)
      have hre:=Plain.rises_at HRE.out hlt
      have HF:=lh (fun h=>Plain.all_range_false (p:=p.okEdge g) hlt h)
      have HS:=lh (Plain.all_range_succ (p.okEdge g) k)
      obtain⟨ei,hei⟩:∃ ei:Nat,p.e.getD k 0=(ei:Int):=⟨(p.e.getD k 0).toNat,by omega⟩
      rw[hei] at ce hre
      have hei2:ei<g.e.length:=by omega
      obtain⟨eb,eoff,rfl,hc0,hc1⟩:=HCE.out ei hei2
      obtain⟨ea,hea⟩:∃ ea,(g.ends ei).1=ea:=⟨_,rfl⟩
      obtain⟨ez,hez⟩:∃ ez,(g.ends ei).2=ez:=⟨_,rfl⟩
      have HR:=lh (show p.okEdge g k=(decide (ea∈p.v)&&decide (ez∈p.v)) by simp only[Plain.Pt.okEdge,hei,Int.toNat_natCast,hea,hez])
      rw[hea] at hc0
      rw[hez] at hc1
      have c0:=HC1.out.cell hc0 (by simp)
      have c1:=HC1.out.cell hc1 (by simp)
      have C0:=lh c0
      have C1:=lh c1
      clear hbc hc hre hei hc0 hc1 c0 c1 hea hez
      go_wp2
      clear ce
      have HSA:=lh (fun wx (hx:Chg [] w1 wx)=>(show (fun w':World=>w'.cell? ⟨pb,0,none⟩=some (.slice ao p.v.length ac)∧w'.cell? ⟨gb,1,none⟩=some (.slice (some ⟨eb,eoff,none⟩) g.e.length cap)∧w'.cell? ⟨eb,eoff+ei*2,none⟩=some (.int .i64 ea)∧w'.cell? ⟨eb,eoff+ei*2+1,none⟩=some (.int .i64 ez)) wx from⟨hx.cell Y0.out (by simp),hx.cell X1.out (by simp),hx.cell C0.out (by simp),hx.cell C1.out (by simp)⟩))
      have hS0:=HSA.out wr.drew HC.out.drew
      refine wp_region_way (fun w':World=>w'.cell? ⟨pb,0,none⟩=some (.slice ao p.v.length ac)∧w'.cell? ⟨gb,1,none⟩=some (.slice (some ⟨eb,eoff,none⟩) g.e.length cap)∧w'.cell? ⟨eb,eoff+ei*2,none⟩=some (.int .i64 ea)∧w'.cell? ⟨eb,eoff+ei*2+1,none⟩=some (.int .i64 ez)) [0,1,2,3,4,5,6,7,9,10,11,12,13,14,15,16,17,18,20,21] (Way.line [0,1,2,3,4,5,6,7,8,9,10,11,12,13,14,15,16,17,18,19,20,21] .done) (by kernel_rfl) (by kernel_rfl) ?_
      simp only[Way.line]
      repeat
       first
        | (refine along_off rfl (by rfl) (by rfl) (fun _ _ _ h=>h) hS0 ?_;simp only[Act.put,Z1,Z2,Z3,Z4,Z5,Z6])
        | (refine along_read (v:=?_) rfl (by rfl) (by rfl) (fun _ _ _ h=>h) hS0 (fun w' hS'=>?_) ?_;rotate_left;(focus ((try dsimp only at hS');go_simp;try with_reducible rfl));simp only[Act.put,Z1,Z2,Z3,Z4,Z5,Z6])
        | (refine along_skip rfl (by rfl) (by rfl) hS0 ?_;simp only[Act.put,Z1,Z2,Z3,Z4,Z5,Z6])
      refine along_op rfl (by rfl) (by rfl) (fun K hK=>?_)
      go_simp
      refine (has_any _ p.v ea _ HSO.out hl ((HV.out.fresh HC1.out).fresh HC.out.drew)).mono ?_
      rintro e w5 ⟨rfl,hc5⟩
      have HC5:=lh (HC.out.drew.trans hc5 (by simp))
      have hS1:=HSA.out w5 HC5.out
      refine hK.out _ _ (fun _=>hS1) ?_
      clear hK K hc5 hS0
      obtain⟨q1,hq1⟩:∃ q,decide (ea∈p.v)=q:=⟨_,rfl⟩
      obtain⟨q2,hq2⟩:∃ q,decide (ez∈p.v)=q:=⟨_,rfl⟩
      have HQ2:=lh hq2
      rw[hq1,hq2] at HR
      rw[hq1]
      clear hq1 hq2
      cases q1 with
      | false =>
       have HE4:=lh (show p.err g=4 by rw[HER2.out,if_neg (by rw[HF.out (by rw[HR.out];rfl)];decide)])
       try simp only[Act.put,Z1,Z2,Z3,Z4,Z5,Z6]
       repeat
        first
         | (refine along_off rfl (by rfl) (by rfl) (fun _ _ _ h=>h) hS1 ?_;simp only[Act.put,Z1,Z2,Z3,Z4,Z5,Z6])
         | (refine along_read (v:=?_) rfl (by rfl) (by rfl) (fun _ _ _ h=>h) hS1 (fun w' hS'=>?_) ?_;rotate_left;(focus ((try dsimp only at hS');go_simp;try with_reducible rfl));simp only[Act.put,Z1,Z2,Z3,Z4,Z5,Z6])
         | (refine along_skip rfl (by rfl) (by rfl) hS1 ?_;simp only[Act.put,Z1,Z2,Z3,Z4,Z5,Z6])
       refine along_done ?_
       go_wp2
       go_ret
       exact⟨ret_int HE4.out.symm,HC1.out.trans HC5.out (by simp)⟩
      | true =>
       try simp only[Act.put,Z1,Z2,Z3,Z4,Z5,Z6]
       repeat
        first
         | (refine along_off rfl (by rfl) (by rfl) (fun _ _ _ h=>h) hS1 ?_;simp only[Act.put,Z1,Z2,Z3,Z4,Z5,Z6])
         | (refine along_read (v:=?_) rfl (by rfl) (by rfl) (fun _ _ _ h=>h) hS1 (fun w' hS'=>?_) ?_;rotate_left;(focus ((try dsimp only at hS');go_simp;try with_reducible rfl));simp only[Act.put,Z1,Z2,Z3,Z4,Z5,Z6])
         | (refine along_skip rfl (by rfl) (by rfl) hS1 ?_;simp only[Act.put,Z1,Z2,Z3,Z4,Z5,Z6])
       refine along_op rfl (by rfl) (by rfl) (fun K hK=>?_)
       go_simp
       refine (has_any _ p.v ez _ HSO.out hl ((HV.out.fresh HC1.out).fresh HC5.out)).mono ?_
       rintro e w6 ⟨rfl,hc6⟩
       have HC6:=lh (HC5.out.trans hc6 (by simp))
       have hS2:=HSA.out w6 HC6.out
       refine hK.out _ _ (fun _=>hS2) ?_
       clear hK K hc6 hS1
       rw[HQ2.out]
       cases q2 with
       | false =>
        have HE4:=lh (show p.err g=4 by rw[HER2.out,if_neg (by rw[HF.out (by rw[HR.out];rfl)];decide)])
        try simp only[Act.put,Z1,Z2,Z3,Z4,Z5,Z6]
        repeat
         first
          | (refine along_off rfl (by rfl) (by rfl) (fun _ _ _ h=>h) hS2 ?_;simp only[Act.put,Z1,Z2,Z3,Z4,Z5,Z6])
          | (refine along_read (v:=?_) rfl (by rfl) (by rfl) (fun _ _ _ h=>h) hS2 (fun w' hS'=>?_) ?_;rotate_left;(focus ((try dsimp only at hS');go_simp;try with_reducible rfl));simp only[Act.put,Z1,Z2,Z3,Z4,Z5,Z6])
          | (refine along_skip rfl (by rfl) (by rfl) hS2 ?_;simp only[Act.put,Z1,Z2,Z3,Z4,Z5,Z6])
        refine along_done ?_
        go_wp2
        go_ret
        exact⟨ret_int HE4.out.symm,HC1.out.trans HC6.out (by simp)⟩
       | true =>
        try simp only[Act.put,Z1,Z2,Z3,Z4,Z5,Z6]
        repeat
         first
          | (refine along_off rfl (by rfl) (by rfl) (fun _ _ _ h=>h) hS2 ?_;simp only[Act.put,Z1,Z2,Z3,Z4,Z5,Z6])
          | (refine along_read (v:=?_) rfl (by rfl) (by rfl) (fun _ _ _ h=>h) hS2 (fun w' hS'=>?_) ?_;rotate_left;(focus ((try dsimp only at hS');go_simp;try with_reducible rfl));simp only[Act.put,Z1,Z2,Z3,Z4,Z5,Z6])
          | (refine along_skip rfl (by rfl) (by rfl) hS2 ?_;simp only[Act.put,Z1,Z2,Z3,Z4,Z5,Z6])
        refine along_done ?_
        clear hS2
        go_wp2
        go_roundw
        case rel=>exact⟨k+1,by omega,by go_num,HC6.out,lh (by rw[HS.out,HR.out,hall.out];rfl)⟩
        case measure=>simp[intOf];omega
     have e:k=p.e.length:=by omega
     subst e
     have HE0:=lh (HER2.out.trans (if_pos hall.out))
     go_wp2
     go_ret
     exact⟨ret_int HE0.out.symm,HC1.out.trans HC.out (by simp)⟩
 have HEQ:=lh (show p.err g=g.err by unfold Plain.Pt.err;rw[if_pos h1])
 have hne:(g.err==0)=false:=by rw[beq_eq_false_iff_ne];exact h1
 clear h1
 go_wp2
 go_ret
 exact⟨ret_int HEQ.out.symm,HC1.out.trans HC2.out (by simp)⟩
end Go.Proofs.Ytbkjljffnkdcjaa
