/- hold.Homes at one vertex, hold.Home: contracts. Conditions: a case, a part that lie in memory and read so, of a bounded size; a vertex. -/
import Derived.Test.YtkacjmoamgjfpaaGreatHxHome
namespace Go.Proofs.YtkacjmoamgjfpaaGreat
open Go.RowKit Go.Maps
set_option maxRecDepth 100000 in
set_option maxHeartbeats 8000000 in
theorem homes0_any (vc vh vl:Value) (g:Plain.Gr) (p h:Plain.Pt) (turn same:List (List Int)) (v:Int) (w:World) (hpl:p.e.length≤60) (hpv:p.v.length≤60) (hql:h.e.length≤60) (hqv:h.v.length≤60) (hT:turn.length≤100) (hr:∀ i,(turn.getD i []).length≤200) (hS:Plain.sumLen turn turn.length<2147483648) (hsl:same.length≤10000) (hsr:∀ i,(same.getD i []).length≤10000)
  (IV:I64 v) (hc:CaseAt w vc g p turn same) (hh:PtC w vh h) (hl:IntsAt w vl [v]) :
  Calls Tryz.prog 86 #[vc,vh,vl] w fun e w'=>e=.returned (.tuple #[.int .i64 (optN (Plain.homeAt g p h turn same v)),.bool (Plain.homeAt g p h turn same v).isSome])∧Chg [] w w':=by
 have HS1:=lh hS
 have HSR:=lh hsr
 have HROWS:=lh hr
 have HCA:=lh hc
 have HH:=lh hh
 have HL:=lh hl
 obtain⟨eo,cap,ao,ac,bo,bc,tno,tc,so,sc,rfl,hg,hp,hx⟩:=hc.shape
 obtain⟨co,cc,fo,fc,rfl⟩:=hh.shape
 have HG:=lh hg
 have HP:=lh hp.at
 obtain⟨lo,lc,rfl,-,-,-⟩:=hl
 obtain⟨lb,loff,rfl,lcell⟩:=IntsAt.cellAt HL.out (i:=0) (by simp)
 rw[Nat.add_zero] at lcell
 have HLC:=lh (show w.cell? ⟨lb,loff,none⟩=some (.int .i64 v) from lcell)
 have HPVI:=lh (show IntsAt w (.slice ao p.v.length ac) p.v by obtain⟨v1,v2,e,he,-⟩:=HP.out;cases e;exact he)
 have HHVI:=lh (show IntsAt w (.slice co h.v.length cc) h.v by obtain⟨v1,v2,e,he,-⟩:=HH.out.at;cases e;exact he)
 rw[show ([v]:List Int).length=1 from rfl] at HL ⊢
 have H0:=lh (fun (q:Plain.planErr g p turn same≠0∨h.err g≠0∨¬ (Plain.subB h.v p.v=true∧Plain.subB h.e p.e=true))=>(show Plain.homeAt g p h turn same v=none by unfold Plain.homeAt;rw[if_pos q]))
 have H1:=lh (fun (q:¬ (Plain.planErr g p turn same≠0∨h.err g≠0∨¬ (Plain.subB h.v p.v=true∧Plain.subB h.e p.e=true)))=>(show Plain.homeAt g p h turn same v=if v ∉ p.v∨v∈h.v then none else if h.v=[] then some 0 else Plain.homeRegs g p h turn same v by unfold Plain.homeAt;rw[if_neg q]))
 obtain⟨res,hres⟩:∃ res,Plain.homeAt g p h turn same v=res:=⟨_,rfl⟩
 rw[hres] at H0 H1 ⊢
 clear hg hp hx hc hh lcell hS hsr hr hres
 have HXC:=lh (show Chg [] w ((w.alloc (.cells #[.int .i64 g.n,.slice eo g.e.length cap,.slice ao p.v.length ac,.slice bo p.e.length bc,.slice tno turn.length tc,.slice so same.length sc] 34)).alloc (.cells #[.slice co h.v.length cc,.slice fo h.e.length fc] 29)) from (show Chg [] w ((w.alloc (.cells #[.int .i64 g.n,.slice eo g.e.length cap,.slice ao p.v.length ac,.slice bo p.e.length bc,.slice tno turn.length tc,.slice so same.length sc] 34)).alloc (.cells #[.slice co h.v.length cc,.slice fo h.e.length fc] 29)) from (((Chg.refl [] w).alloc _).alloc _)))
 have qbx0:=heap_alloc_new w (.cells #[.int .i64 g.n,.slice eo g.e.length cap,.slice ao p.v.length ac,.slice bo p.e.length bc,.slice tno turn.length tc,.slice so same.length sc] 34)
 replace qbx0:=(show Chg [] (w.alloc (.cells #[.int .i64 g.n,.slice eo g.e.length cap,.slice ao p.v.length ac,.slice bo p.e.length bc,.slice tno turn.length tc,.slice so same.length sc] 34)) ((w.alloc (.cells #[.int .i64 g.n,.slice eo g.e.length cap,.slice ao p.v.length ac,.slice bo p.e.length bc,.slice tno turn.length tc,.slice so same.length sc] 34)).alloc (.cells #[.slice co h.v.length cc,.slice fo h.e.length fc] 29)) from ((Chg.refl [] (w.alloc (.cells #[.int .i64 g.n,.slice eo g.e.length cap,.slice ao p.v.length ac,.slice bo p.e.length bc,.slice tno turn.length tc,.slice so same.length sc] 34))).alloc _)).heap qbx0 (by simp)
 have qbx1:=heap_alloc_new (w.alloc (.cells #[.int .i64 g.n,.slice eo g.e.length cap,.slice ao p.v.length ac,.slice bo p.e.length bc,.slice tno turn.length tc,.slice so same.length sc] 34)) (.cells #[.slice co h.v.length cc,.slice fo h.e.length fc] 29)
 rw[show (w.alloc (.cells #[.int .i64 g.n,.slice eo g.e.length cap,.slice ao p.v.length ac,.slice bo p.e.length bc,.slice tno turn.length tc,.slice so same.length sc] 34)).heap.size=w.heap.size+1 by simp] at qbx1
 have HX:=lh (fun (w2:World) (hbx:Chg [] ((w.alloc (.cells #[.int .i64 g.n,.slice eo g.e.length cap,.slice ao p.v.length ac,.slice bo p.e.length bc,.slice tno turn.length tc,.slice so same.length sc] 34)).alloc (.cells #[.slice co h.v.length cc,.slice fo h.e.length fc] 29)) w2)=>(⟨hbx.cell ((cell_of_row _ _ 0 _ _ _ qbx0).trans rfl) (by simp),hbx.cell ((cell_of_row _ _ 1 _ _ _ qbx0).trans rfl) (by simp),hbx.cell ((cell_of_row _ _ 2 _ _ _ qbx0).trans rfl) (by simp),hbx.cell ((cell_of_row _ _ 3 _ _ _ qbx0).trans rfl) (by simp),hbx.cell ((cell_of_row _ _ 4 _ _ _ qbx0).trans rfl) (by simp),hbx.cell ((cell_of_row _ _ 5 _ _ _ qbx0).trans rfl) (by simp),hbx.cell ((cell_of_row _ _ 0 _ _ _ qbx1).trans rfl) (by simp),hbx.cell ((cell_of_row _ _ 1 _ _ _ qbx1).trans rfl) (by simp),by have hz:=hbx.size;simpa using hz⟩:w2.cell? ⟨w.heap.size,0,none⟩=some (.int .i64 g.n)∧w2.cell? ⟨w.heap.size,1,none⟩=some (.slice eo g.e.length cap)∧w2.cell? ⟨w.heap.size,2,none⟩=some (.slice ao p.v.length ac)∧w2.cell? ⟨w.heap.size,3,none⟩=some (.slice bo p.e.length bc)∧w2.cell? ⟨w.heap.size,4,none⟩=some (.slice tno turn.length tc)∧w2.cell? ⟨w.heap.size,5,none⟩=some (.slice so same.length sc)∧w2.cell? ⟨w.heap.size+1,0,none⟩=some (.slice co h.v.length cc)∧w2.cell? ⟨w.heap.size+1,1,none⟩=some (.slice fo h.e.length fc)∧w.heap.size+2≤w2.heap.size))
 clear qbx0 qbx1
 have HXZ:=lh (show ((w.alloc (.cells #[.int .i64 g.n,.slice eo g.e.length cap,.slice ao p.v.length ac,.slice bo p.e.length bc,.slice tno turn.length tc,.slice so same.length sc] 34)).alloc (.cells #[.slice co h.v.length cc,.slice fo h.e.length fc] 29)).heap.size=w.heap.size+2 by simp)
 obtain⟨c0,c1,c2,c3,c4,c5,q0,q1,hsz⟩:=HX.out _ (Chg.refl _ _)
 go_enter Tryz.func86,Tryz.ntmps86
 go_wp2_with fail
 generalize ((w.alloc (.cells #[.int .i64 g.n,.slice eo g.e.length cap,.slice ao p.v.length ac,.slice bo p.e.length bc,.slice tno turn.length tc,.slice so same.length sc] 34)).alloc (.cells #[.slice co h.v.length cc,.slice fo h.e.length fc] 29))=w1 at *
 refine (holdRight_any _ g p turn same _ (by omega) (by omega) (by omega) HS1.out hsl HSR.out (HCA.out.fresh HXC.out)).mono ?_
 rintro e w2 ⟨rfl,hc2⟩
 have HC2:=lh hc2
 have HW2:=lh (HXC.out.trans hc2 (by simp))
 clear c0 c1 c2 c3 c4 c5 q0 q1 hsz hc2
 obtain⟨c0,c1,c2,c3,c4,c5,q0,q1,hsz⟩:=HX.out _ HC2.out
 by_cases hz:Plain.planErr g p turn same=0
 ·have HZ:=lh hz
  have HPE:=lh (Plain.zero_ok hz).1
  have HPR:=lh (Plain.part_rise (Plain.zero_ok hz).1)
  rw[hz]
  clear hz
  go_wp2_with fail
  refine (rightPart_any _ _ g h _ (by omega) (HG.out.fresh HW2.out) (HH.out.at.fresh HW2.out)).mono ?_
  rintro e w3 ⟨rfl,hc3⟩
  have HC3:=lh (HC2.out.trans hc3 (by simp))
  have HW3:=lh (HXC.out.trans HC3.out (by simp))
  clear c0 c1 c2 c3 c4 c5 q0 q1 hsz hc3
  obtain⟨c0,c1,c2,c3,c4,c5,q0,q1,hsz⟩:=HX.out _ HC3.out
  by_cases he:h.err g=0
  ·have HHE:=lh he
   have HHR:=lh (Plain.part_rise he)
   rw[he]
   clear he
   go_wp2_with fail
   refine (within_any _ _ h p _ (by omega) (by omega) (by omega) (by omega) HPR.out.1 HPR.out.2 (HH.out.at.fresh HW3.out) (HP.out.fresh HW3.out)).mono ?_
   rintro e w4 ⟨rfl,hc4⟩
   have HC4:=lh (HC3.out.trans hc4 (by simp))
   have HW4:=lh (HXC.out.trans HC4.out (by simp))
   clear c0 c1 c2 c3 c4 c5 q0 q1 hsz hc4
   obtain⟨c0,c1,c2,c3,c4,c5,q0,q1,hsz⟩:=HX.out _ HC4.out
   cases hsb:(Plain.subB h.v p.v&&Plain.subB h.e p.e) with
   | false =>
    have HE:=lh (H0.out (Or.inr (Or.inr (fun q=>by rw[q.1,q.2] at hsb;cases hsb))))
    clear hsb
    go_wp2
    refine bodyPost_ret (v:=.tuple #[.int .i64 0,.bool false]) (by simp[results,Tryz.results86,go_sem]) rfl ?_
    exact⟨by rw[HE.out,show optN none=0 from rfl,show (none:Option Nat).isSome=false from rfl],HW4.out⟩
   | true =>
    rw[Bool.and_eq_true] at hsb
    have HSB:=lh hsb
    have H2:=lh (H1.out (by rintro (q | q | q);exact q HZ.out;exact q HHE.out;exact q HSB.out))
    clear hsb
    go_wp2
    clear c0 c1 c2 c3 c4 c5 q0 q1 hsz
    go_loopw [36] (fun c wr=>∃ k:Nat,k≤1∧c=.int .i64 k∧Hid (k=1→v∈p.v∧v ∉ h.v)∧Chg [] w1 wr) (fun c _=>1 - (intOf c).toNat)
    case atStart=>exact⟨0,by omega,rfl,lh (by omega),HC4.out⟩
    case round =>
     obtain⟨k,hk,rfl,hin,hcr⟩:=hrel
     have HC:=lh hcr
     have HW:=lh (HXC.out.trans hcr (by simp))
     have lcell:=HW.out.cell HLC.out (by simp)
     obtain⟨c0,c1,c2,c3,c4,c5,q0,q1,hsz⟩:=HX.out _ hcr
     clear hcr
     by_cases hlt:k<1
     ·obtain rfl:k=0:=by omega
      have lc0:wr.cell? ⟨lb,loff+0,none⟩=some (.int .i64 v):=lcell
      go_wp2_with fail
      refine (has_any _ p.v v _ HPR.out.1 (by omega) (HPVI.out.fresh HW.out)).mono ?_
      rintro e w5 ⟨rfl,hc5⟩
      have HC5:=lh (HC.out.trans hc5 (by simp))
      have HW5:=lh (HXC.out.trans HC5.out (by simp))
      clear c0 c1 c2 c3 c4 c5 q0 q1 hsz hc5 lcell lc0
      obtain⟨c0,c1,c2,c3,c4,c5,q0,q1,hsz⟩:=HX.out _ HC5.out
      by_cases h1:v∈p.v
      ·rw[decide_eq_true h1]
       have HV1:=lh h1
       clear h1
       go_wp2_with fail
       refine (has_any _ h.v v _ HHR.out.1 (by omega) (HHVI.out.fresh HW5.out)).mono ?_
       rintro e w6 ⟨rfl,hc6⟩
       have HC6:=lh (HC5.out.trans hc6 (by simp))
       have HW6:=lh (HXC.out.trans HC6.out (by simp))
       clear c0 c1 c2 c3 c4 c5 q0 q1 hsz hc6
       by_cases h2:v∈h.v
       ·rw[decide_eq_true h2]
        have HE:=lh (H2.out.trans (if_pos (Or.inr h2)))
        clear h2
        go_wp2
        refine bodyPost_ret (v:=.tuple #[.int .i64 0,.bool false]) (by simp[results,Tryz.results86,go_sem]) rfl ?_
        exact⟨by rw[HE.out,show optN none=0 from rfl,show (none:Option Nat).isSome=false from rfl],HW6.out⟩
       rw[decide_eq_false h2]
       have HV2:=lh h2
       clear h2
       go_wp2
       go_roundw
       case rel=>exact⟨1,by omega,by go_num,lh (fun _=>⟨HV1.out,HV2.out⟩),HC6.out⟩
       case measure=>simp[intOf]
      rw[decide_eq_false h1]
      have HE:=lh (H2.out.trans (if_pos (Or.inl h1)))
      clear h1
      go_wp2
      refine bodyPost_ret (v:=.tuple #[.int .i64 0,.bool false]) (by simp[results,Tryz.results86,go_sem]) rfl ?_
      exact⟨by rw[HE.out,show optN none=0 from rfl,show (none:Option Nat).isSome=false from rfl],HW5.out⟩
     obtain rfl:k=1:=by omega
     have HIN:=lh (hin.out rfl)
     have H3:=lh (H2.out.trans (if_neg (by rintro (q | q);exact q HIN.out.1;exact HIN.out.2 q)))
     clear hlt hk hin
     by_cases hv0:h.v=[]
     ·have HE:=lh (H3.out.trans (if_pos hv0))
      have hvl:((h.v.length:Int)==0)=true:=by rw[hv0];rfl
      clear hv0
      go_wp2
      refine bodyPost_ret (v:=.tuple #[.int .i64 0,.bool true]) (by simp[results,Tryz.results86,go_sem]) rfl ?_
      exact⟨by rw[HE.out,show optN (some 0)=0 from rfl,show (some 0:Option Nat).isSome=true from rfl],HW.out⟩
     have HE:=lh (H3.out.trans (if_neg hv0))
     have hvl:((h.v.length:Int)==0)=false:=by rw[beq_eq_false_iff_ne];have:=List.length_pos_iff.2 hv0;omega
     have hvr:=(Plain.Pt.ok_of_err HPE.out).vr v HIN.out.1
     have hgn:=(Plain.Gr.err_ok (Plain.Pt.err_ok HPE.out).1).2.1
     have wv:IntKind.i64.wrap (-1 - v) = -1 - v:=IntWalk.i64_in _ (by omega)
     have hlt60:h.v.length<60:=by
      have:=Plain.len_le_of_sub (l:=v :: h.v) (m:=p.v) (List.nodup_cons.2 ⟨HIN.out.2,HHR.out.1.imp fun h=>by omega⟩) (fun x hx=>(List.mem_cons.1 hx).elim (fun e=>by rw[e];exact HIN.out.1) (Plain.subB_iff.1 HSB.out.1 x))
      rw[List.length_cons] at this
      omega
     clear hv0 hvr hgn
     go_wp2_with fail
     refine (homes_any _ _ _ g p h turn same v _ (by omega) (by omega) hql hlt60 hT HROWS.out HS1.out hsl HSR.out HZ.out HHE.out HSB.out.1 HSB.out.2 HIN.out.1 (HCA.out.fresh HW.out) (HH.out.fresh HW.out) (HL.out.fresh HW.out)).mono ?_
     rintro e w7 ⟨ab,ob,v1,v0,rfl,k1,k0,r1,r0,hc7⟩
     have HC7:=lh (HC.out.trans hc7 (by simp))
     have HW7:=lh (HXC.out.trans HC7.out (by simp))
     have lcell7:=hc7.cell lcell (by simp)
     have lc7:w7.cell? ⟨lb,loff+0,none⟩=some (.int .i64 v):=lcell7
     have K1:=lh k1
     have K0:=lh k0
     have R1:=lh r1
     have R0:=lh r0
     have HHR2:=lh (show Plain.homeRegs g p h turn same v=Plain.homeIn (Plain.regionsOf g h (Plain.restTurn h.e turn) (Plain.restSame g p h turn same)) (Plain.regionsOf g (Plain.orPt h ⟨[v],[]⟩) (Plain.restTurn (Plain.orPt h ⟨[v],[]⟩).e turn) (Plain.restSame g p (Plain.orPt h ⟨[v],[]⟩) turn same)) (-1 - v) from rfl)
     have HNE:=lh (Plain.regs_ne (Plain.rest_right HZ.out HHE.out (Plain.subB_iff.1 HSB.out.2) (Plain.subB_iff.1 HSB.out.1)))
     obtain⟨Q0,hQ0⟩:∃ Q,Plain.regionsOf g h (Plain.restTurn h.e turn) (Plain.restSame g p h turn same)=Q:=⟨_,rfl⟩
     obtain⟨Q1,hQ1⟩:∃ Q,Plain.regionsOf g (Plain.orPt h ⟨[v],[]⟩) (Plain.restTurn (Plain.orPt h ⟨[v],[]⟩).e turn) (Plain.restSame g p (Plain.orPt h ⟨[v],[]⟩) turn same)=Q:=⟨_,rfl⟩
     rw[hQ0] at R0 HHR2 HNE
     rw[hQ1] at R1 HHR2
     clear c0 c1 c2 c3 c4 c5 q0 q1 hsz k1 k0 r1 r0 hc7 hQ0 hQ1 lcell
     go_wp2_with fail
     refine (homes1_any v1 v0 Q1 Q0 ab ob v _ IV wv R1.out R0.out HNE.out K1.out K0.out).mono ?_
     rintro e w8 ⟨rfl,hc8⟩
     have HW8:=lh (HW7.out.trans hc8 (by simp))
     rw[←HHR2.out,←HE.out]
     clear hc8 lcell7 lc7
     cases hrs:res with
     | none =>
      have HRS:=lh hrs
      rw[show optN none=0 from rfl,show (none:Option Nat).isSome=false from rfl]
      clear hrs
      go_wp2
      refine bodyPost_ret (v:=.tuple #[.int .i64 0,.bool false]) (by simp[results,Tryz.results86,go_sem]) rfl ?_
      have he2:optN res=0:=by rw[HRS.out];rfl
      have he3:res.isSome=false:=by rw[HRS.out];rfl
      exact⟨by rw[he2,he3],HW8.out⟩
     | some r =>
      have HRS:=lh hrs
      rw[show optN (some r)=(r:Int) from rfl,show (some r).isSome=true from rfl]
      clear hrs
      by_cases hl1:lc=1
      ·subst hl1
       go_wp2
       go_loopw [84] (fun c wr=>c=.int .i64 0∧Chg [] w wr) (fun c _=>0)
       case atStart=>exact⟨rfl,HW8.out⟩
       case round =>
        obtain⟨rfl,hcr⟩:=hrel
        have HCF:=lh hcr
        clear hcr
        go_wp2
        refine bodyPost_ret (v:=.tuple #[.int .i64 r,.bool true]) (by simp[results,Tryz.results86,go_sem]) rfl ?_
        have he2:optN res=(r:Int):=by rw[HRS.out];rfl
        have he3:res.isSome=true:=by rw[HRS.out];rfl
        exact⟨by rw[he2,he3],HCF.out⟩
      have hl2:¬ 1=lc:=fun e=>hl1 e.symm
      go_wp2
      go_loopw [84] (fun c wr=>c=.int .i64 0∧Chg [] w wr) (fun c _=>0)
      case atStart=>exact⟨rfl,HW8.out⟩
      case round =>
       obtain⟨rfl,hcr⟩:=hrel
       have HCF:=lh hcr
       clear hcr
       go_wp2
       refine bodyPost_ret (v:=.tuple #[.int .i64 r,.bool true]) (by simp[results,Tryz.results86,go_sem]) rfl ?_
       have he2:optN res=(r:Int):=by rw[HRS.out];rfl
       have he3:res.isSome=true:=by rw[HRS.out];rfl
       exact⟨by rw[he2,he3],HCF.out⟩
  have HE:=lh (H0.out (Or.inr (Or.inl he)))
  obtain⟨er,her⟩:∃ er,h.err g=er:=⟨_,rfl⟩
  rw[her] at he ⊢
  have bz:(er != 0)=true:=by simp only[bne_iff_ne];exact he
  clear he her
  go_wp2
  refine bodyPost_ret (v:=.tuple #[.int .i64 0,.bool false]) (by simp[results,Tryz.results86,go_sem]) rfl ?_
  exact⟨by rw[HE.out,show optN none=0 from rfl,show (none:Option Nat).isSome=false from rfl],HW3.out⟩
 have HE:=lh (H0.out (Or.inl hz))
 obtain⟨er,her⟩:∃ er,Plain.planErr g p turn same=er:=⟨_,rfl⟩
 rw[her] at hz ⊢
 have bz:(er != 0)=true:=by simp only[bne_iff_ne];exact hz
 clear hz her
 go_wp2
 refine bodyPost_ret (v:=.tuple #[.int .i64 0,.bool false]) (by simp[results,Tryz.results86,go_sem]) rfl ?_
 exact⟨by rw[HE.out,show optN none=0 from rfl,show (none:Option Nat).isSome=false from rfl],HW2.out⟩
theorem lit_one {w:World} {x:Int} (hx:I64 x):IntsAt (w.alloc (.cells #[.int .i64 x] 3)) (.slice (some ⟨w.heap.size,0,none⟩) 1 1) [x]:=lit_ints w hx
set_option maxRecDepth 100000 in
set_option maxHeartbeats 2000000 in
theorem home_any (vc vh:Value) (g:Plain.Gr) (p h:Plain.Pt) (turn same:List (List Int)) (v:Int) (w:World) (hpl:p.e.length≤60) (hpv:p.v.length≤60) (hql:h.e.length≤60) (hqv:h.v.length≤60) (hT:turn.length≤100) (hr:∀ i,(turn.getD i []).length≤200) (hS:Plain.sumLen turn turn.length<2147483648) (hsl:same.length≤10000) (hsr:∀ i,(same.getD i []).length≤10000)
  (IV:I64 v) (hc:CaseAt w vc g p turn same) (hh:PtC w vh h) :
  Calls Tryz.prog 38 #[vc,vh,.int .i64 v] w fun e w'=>e=.returned (.tuple #[.int .i64 (optN (Plain.homeAt g p h turn same v)),.bool (Plain.homeAt g p h turn same v).isSome])∧Chg [] w w':=by
 have HS1:=lh hS
 have HSR:=lh hsr
 have HROWS:=lh hr
 have HCA:=lh hc
 have HH:=lh hh
 obtain⟨eo,cap,ao,ac,bo,bc,tno,tc,so,sc,rfl,-⟩:=hc.shape
 obtain⟨co,cc,fo,fc,rfl⟩:=hh.shape
 clear hc hh hS hsr hr
 have HXC:=lh (show Chg [] w ((w.alloc (.cells #[.int .i64 g.n,.slice eo g.e.length cap,.slice ao p.v.length ac,.slice bo p.e.length bc,.slice tno turn.length tc,.slice so same.length sc] 34)).alloc (.cells #[.slice co h.v.length cc,.slice fo h.e.length fc] 29)) from (show Chg [] w ((w.alloc (.cells #[.int .i64 g.n,.slice eo g.e.length cap,.slice ao p.v.length ac,.slice bo p.e.length bc,.slice tno turn.length tc,.slice so same.length sc] 34)).alloc (.cells #[.slice co h.v.length cc,.slice fo h.e.length fc] 29)) from (((Chg.refl [] w).alloc _).alloc _)))
 have qbx0:=heap_alloc_new w (.cells #[.int .i64 g.n,.slice eo g.e.length cap,.slice ao p.v.length ac,.slice bo p.e.length bc,.slice tno turn.length tc,.slice so same.length sc] 34)
 replace qbx0:=(show Chg [] (w.alloc (.cells #[.int .i64 g.n,.slice eo g.e.length cap,.slice ao p.v.length ac,.slice bo p.e.length bc,.slice tno turn.length tc,.slice so same.length sc] 34)) ((w.alloc (.cells #[.int .i64 g.n,.slice eo g.e.length cap,.slice ao p.v.length ac,.slice bo p.e.length bc,.slice tno turn.length tc,.slice so same.length sc] 34)).alloc (.cells #[.slice co h.v.length cc,.slice fo h.e.length fc] 29)) from ((Chg.refl [] (w.alloc (.cells #[.int .i64 g.n,.slice eo g.e.length cap,.slice ao p.v.length ac,.slice bo p.e.length bc,.slice tno turn.length tc,.slice so same.length sc] 34))).alloc _)).heap qbx0 (by simp)
 have qbx1:=heap_alloc_new (w.alloc (.cells #[.int .i64 g.n,.slice eo g.e.length cap,.slice ao p.v.length ac,.slice bo p.e.length bc,.slice tno turn.length tc,.slice so same.length sc] 34)) (.cells #[.slice co h.v.length cc,.slice fo h.e.length fc] 29)
 rw[show (w.alloc (.cells #[.int .i64 g.n,.slice eo g.e.length cap,.slice ao p.v.length ac,.slice bo p.e.length bc,.slice tno turn.length tc,.slice so same.length sc] 34)).heap.size=w.heap.size+1 by simp] at qbx1
 have HX:=lh (fun (w2:World) (hbx:Chg [] ((w.alloc (.cells #[.int .i64 g.n,.slice eo g.e.length cap,.slice ao p.v.length ac,.slice bo p.e.length bc,.slice tno turn.length tc,.slice so same.length sc] 34)).alloc (.cells #[.slice co h.v.length cc,.slice fo h.e.length fc] 29)) w2)=>(⟨hbx.cell ((cell_of_row _ _ 0 _ _ _ qbx0).trans rfl) (by simp),hbx.cell ((cell_of_row _ _ 1 _ _ _ qbx0).trans rfl) (by simp),hbx.cell ((cell_of_row _ _ 2 _ _ _ qbx0).trans rfl) (by simp),hbx.cell ((cell_of_row _ _ 3 _ _ _ qbx0).trans rfl) (by simp),hbx.cell ((cell_of_row _ _ 4 _ _ _ qbx0).trans rfl) (by simp),hbx.cell ((cell_of_row _ _ 5 _ _ _ qbx0).trans rfl) (by simp),hbx.cell ((cell_of_row _ _ 0 _ _ _ qbx1).trans rfl) (by simp),hbx.cell ((cell_of_row _ _ 1 _ _ _ qbx1).trans rfl) (by simp),by have hz:=hbx.size;simpa using hz⟩:w2.cell? ⟨w.heap.size,0,none⟩=some (.int .i64 g.n)∧w2.cell? ⟨w.heap.size,1,none⟩=some (.slice eo g.e.length cap)∧w2.cell? ⟨w.heap.size,2,none⟩=some (.slice ao p.v.length ac)∧w2.cell? ⟨w.heap.size,3,none⟩=some (.slice bo p.e.length bc)∧w2.cell? ⟨w.heap.size,4,none⟩=some (.slice tno turn.length tc)∧w2.cell? ⟨w.heap.size,5,none⟩=some (.slice so same.length sc)∧w2.cell? ⟨w.heap.size+1,0,none⟩=some (.slice co h.v.length cc)∧w2.cell? ⟨w.heap.size+1,1,none⟩=some (.slice fo h.e.length fc)∧w.heap.size+2≤w2.heap.size))
 clear qbx0 qbx1
 have HXZ:=lh (show ((w.alloc (.cells #[.int .i64 g.n,.slice eo g.e.length cap,.slice ao p.v.length ac,.slice bo p.e.length bc,.slice tno turn.length tc,.slice so same.length sc] 34)).alloc (.cells #[.slice co h.v.length cc,.slice fo h.e.length fc] 29)).heap.size=w.heap.size+2 by simp)
 obtain⟨c0,c1,c2,c3,c4,c5,q0,q1,hsz⟩:=HX.out _ (Chg.refl _ _)
 go_enter Tryz.func38,Tryz.ntmps38
 go_wp2_with fail
 generalize ((w.alloc (.cells #[.int .i64 g.n,.slice eo g.e.length cap,.slice ao p.v.length ac,.slice bo p.e.length bc,.slice tno turn.length tc,.slice so same.length sc] 34)).alloc (.cells #[.slice co h.v.length cc,.slice fo h.e.length fc] 29))=w1 at *
 have HL:=lh (lit_one (w:=w1) IV)
 rw[show w1.heap.size=w.heap.size+1+1 from HXZ.out] at HL
 have HCL:=lh (HXC.out.alloc (.cells #[.int .i64 v] 3))
 refine (homes0_any _ _ _ g p h turn same v _ hpl hpv hql hqv hT HROWS.out HS1.out hsl HSR.out IV (HCA.out.fresh HCL.out) (HH.out.fresh HCL.out) HL.out).mono ?_
 rintro e w2 ⟨rfl,hc2⟩
 have HC2:=lh (HCL.out.trans hc2 (by simp))
 obtain⟨r1,hr1⟩:∃ r,optN (Plain.homeAt g p h turn same v)=r:=⟨_,rfl⟩
 obtain⟨r2,hr2⟩:∃ r,(Plain.homeAt g p h turn same v).isSome=r:=⟨_,rfl⟩
 rw[hr1,hr2]
 have HR1:=lh hr1
 have HR2:=lh hr2
 clear c0 c1 c2 c3 c4 c5 q0 q1 hsz hc2 hr1 hr2
 go_wp2
 refine bodyPost_ret (v:=.tuple #[.int .i64 r1,.bool r2]) (by simp[results,Tryz.results38,go_sem]) rfl ?_
 have he:optN (Plain.homeAt g p h turn same v)=r1:=HR1.out
 have he2:(Plain.homeAt g p h turn same v).isSome=r2:=HR2.out
 exact⟨by rw[he,he2],HC2.out⟩
end Go.Proofs.YtkacjmoamgjfpaaGreat
