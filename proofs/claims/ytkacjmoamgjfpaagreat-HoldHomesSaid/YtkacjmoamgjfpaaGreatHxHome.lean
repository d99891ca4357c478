/- hold.homes and its closures, hold.Homes at one vertex, hold.Home: contracts. Conditions: a case, a part that lie in memory and read so, of a bounded size; a vertex. -/
import Derived.Test.YtkacjmoamgjfpaaGreatHxHoldOf
namespace Go.Proofs.YtkacjmoamgjfpaaGreat
open Go.RowKit Go.Maps
namespace Plain
def homeIn (R0 R1:List (List Int)) (key:Int):Option Nat:=match regionAt R1 key with
 | none=>none
 | some a=>R0.findIdx? fun keys=>decide (keys.getD 0 0∈R1.getD a [])
noncomputable def homeRegs (g:Gr) (p h:Pt) (turn same:List (List Int)) (v:Int):Option Nat :=
 homeIn (regionsOf g h (restTurn h.e turn) (restSame g p h turn same)) (regionsOf g (orPt h ⟨[v],[]⟩) (restTurn (orPt h ⟨[v],[]⟩).e turn) (restSame g p (orPt h ⟨[v],[]⟩) turn same)) (-1 - v)
noncomputable def homeAt (g:Gr) (p h:Pt) (turn same:List (List Int)) (v:Int):Option Nat :=
 if planErr g p turn same≠0∨h.err g≠0∨¬ (subB h.v p.v=true∧subB h.e p.e=true) then none
 else if v ∉ p.v∨v∈h.v then none
 else if h.v=[] then some 0 else homeRegs g p h turn same v
theorem regs_ne {g:Gr} {p:Pt} {turn same:List (List Int)} (hz:planErr g p turn same=0):∀ l∈regionsOf g p turn same,l≠[]:=by
 obtain⟨hpe,hto⟩:=zero_ok hz
 have hpt:=parted hz (walks_ok hpe hto)
 intro l hl
 exact hpt.ne l ((regs_ok hpt).perm.mem_iff.1 hl)
end Plain
def optN (o:Option Nat):Int:=((o.getD 0:Nat):Int)
theorem homes11_any (v:Value) (l:List Int) (kb:Nat) (x:Int) (w:World) (hx:IntKind.i64.wrap (-1 - x) = -1 - x) (h:IntsAt w v l) (hk:w.cell? ⟨kb,0,none⟩=some (.int .i64 x)) :
  Calls Tryz.prog 201 #[v,.pointer (some ⟨kb,0,none⟩)] w fun e w'=>e=.returned (.bool (decide (-1 - x∈l)))∧w'=w:=by
 have H:=lh h
 obtain⟨ao,cap,rfl,-,-,-⟩:=h
 go_enter Tryz.func201,Tryz.ntmps201
 go_wp2_with fail
 refine (contains_any _ l (-1 - x) _ H.out).mono ?_
 rintro e w' ⟨rfl,rfl⟩
 go_wp2
 go_ret
 exact⟨rfl,rfl⟩
set_option maxRecDepth 100000 in
set_option maxHeartbeats 1000000 in
theorem homesIx_any (vt:Value) (ll:List (List Int)) (kb:Nat) (x:Int) (w:World) (hwx:IntKind.i64.wrap (-1 - x) = -1 - x) (h:RowsAt w vt ll) (hk:w.cell? ⟨kb,0,none⟩=some (.int .i64 x)) :
  Calls Tryz.prog 200 #[vt,.func (.func 201) #[] #[.pointer (some ⟨kb,0,none⟩)]] w fun e w'=>e=.returned (.int .i64 (ixOf (Plain.regionAt ll (-1 - x))))∧w'=w:=by
 have HT:=lh h
 obtain⟨tno,tc,rfl,hm,-⟩:=h
 have HKB:=lh hk
 have HWX:=lh hwx
 obtain⟨y,hy⟩:∃ y,-1 - x=y:=⟨_,rfl⟩
 have HY:=lh hy
 rw[hy]
 clear hk hwx hy
 go_enter Tryz.func200,Tryz.ntmps200
 go_wp2
 go_loopw [8] (fun c wr=>∃ k:Nat,k≤ll.length∧c=.int .i64 k∧wr=w∧Hid (∀ i,i<k→y ∉ ll.getD i [])) (fun c _=>ll.length - (intOf c).toNat)
 case atStart=>exact⟨0,Nat.zero_le _,rfl,rfl,lh (by omega)⟩
 case round =>
  obtain⟨k,hk,rfl,rfl,hno⟩:=hrel
  by_cases hlt:k<ll.length
  ·obtain⟨tb,toff,uo,uc,rfl,tcell,hrow⟩:=HT.out.row hlt
   have HROW:=lh hrow
   have HHIT:=lh (fun h=>regionAt_take (key:=y) hlt hno.out h)
   have HNO:=lh (fun (h:y ∉ ll.getD k []) i (hi:i<k+1)=>show y ∉ ll.getD i [] from by
    by_cases e:i=k
    ·rw[e];exact h
    exact hno.out i (by omega))
   obtain⟨T,hT⟩:∃ T,ll.getD k []=T:=⟨_,rfl⟩
   rw[hT] at tcell HROW HHIT HNO
   clear hrow hT
   go_wp2_with fail
   refine (homes11_any _ T kb x _ HWX.out HROW.out HKB.out).mono ?_
   rintro e w2 ⟨rfl,rfl⟩
   rw[HY.out]
   by_cases hx:y∈T
   ·rw[decide_eq_true hx]
    have HE:=lh (HHIT.out hx)
    clear hx
    go_wp2
    go_ret
    exact⟨ret_int (by rw[HE.out];rfl),rfl⟩
   rw[decide_eq_false hx]
   have HE:=lh (HNO.out hx)
   clear hx
   go_wp2
   go_roundw
   case rel=>exact⟨k+1,by omega,by go_num,trivial,HE⟩
   case measure=>simp[intOf];omega
  have e:k=ll.length:=by omega
  subst e
  have HE:=lh (regionAt_no hno.out)
  go_wp2
  go_ret
  exact⟨ret_int (by rw[HE.out];rfl),rfl⟩
theorem find_take {ll:List (List Int)} {q:List Int→Bool} {k:Nat} (hk:k<ll.length) (h:∀ i,i<k→q (ll.getD i [])=false) (hin:q (ll.getD k [])=true):ll.findIdx? q=some k:=by
 rw[List.findIdx?_eq_some_iff_getElem]
 refine⟨hk,by simpa[List.getD,hk] using hin,fun j hj=>?_⟩
 have:=h j hj
 have hjl:j<ll.length:=by omega
 simpa[List.getD,hjl] using this
theorem find_no {ll:List (List Int)} {q:List Int→Bool} (h:∀ i,i<ll.length→q (ll.getD i [])=false):ll.findIdx? q=none:=by
 rw[List.findIdx?_eq_none_iff]
 intro l hl
 obtain⟨i,hi,rfl⟩:=List.getElem_of_mem hl
 have:=h i hi
 simpa[List.getD,hi] using this
set_option maxRecDepth 100000 in
set_option maxHeartbeats 2000000 in
theorem homes1_any (v1 v0:Value) (R1 R0:List (List Int)) (ab ob:Nat) (x:Int) (w:World) (_hx:I64 x) (hwx:IntKind.i64.wrap (-1 - x) = -1 - x) (h1:RowsAt w v1 R1) (h0:RowsAt w v0 R0) (hne:∀ l∈R0,l≠[]) (k1:w.cell? ⟨ab,0,none⟩=some v1) (k0:w.cell? ⟨ob,0,none⟩=some v0) :
  Calls Tryz.prog 199 #[.int .i64 x,.pointer (some ⟨ab,0,none⟩),.pointer (some ⟨ob,0,none⟩)] w fun e w'=>e=.returned (.tuple #[.int .i64 (optN (Plain.homeIn R0 R1 (-1 - x))),.bool (Plain.homeIn R0 R1 (-1 - x)).isSome])∧Chg [] w w':=by
 have HR1:=lh h1
 have HR0:=lh h0
 have HNE:=lh hne
 obtain⟨o1,c1,rfl,hm1,-⟩:=h1
 obtain⟨o0,c0,rfl,hm0,-⟩:=h0
 have hcb:=(Chg.refl [] w).alloc (.cells #[.int .i64 x] 3)
 have HKX:=lh ((cell_of_row _ _ 0 _ _ _ (heap_alloc_new w (.cells #[.int .i64 x] 3))).trans (show _=some (Value.int .i64 x) from rfl))
 have HCB:=lh hcb
 have K1:=lh (hcb.cell k1 (by simp))
 have K0:=lh (hcb.cell k0 (by simp))
 have k1:=K1.out
 have hmf:∀ (fn:Fn) (first cap:Array Value) (w:World),(Instr.makeFunc fn first cap).run Tryz.prog w=.ok (.func fn first cap) w:=fun _ _ _ _=>rfl
 clear hcb hne k0
 go_enter Tryz.func199,Tryz.ntmps199
 go_wp2_with fail
 refine (homesIx_any _ R1 _ x _ hwx (HR1.out.fresh HCB.out) HKX.out).mono ?_
 rintro e w2 ⟨rfl,rfl⟩
 generalize (w.alloc (.cells #[.int .i64 x] 3))=w1 at *
 generalize w.heap.size=xb at *
 clear k1
 cases hr:Plain.regionAt R1 (-1 - x) with
 | none =>
  have HE:=lh (show Plain.homeIn R0 R1 (-1 - x)=none by unfold Plain.homeIn;rw[hr])
  rw[show ixOf none = -1 from rfl]
  clear hr
  go_wp2
  refine bodyPost_ret (v:=.tuple #[.int .i64 0,.bool false]) (by simp[results,Tryz.results199,go_sem]) rfl ?_
  exact⟨by rw[HE.out];rfl,HCB.out⟩
 | some a =>
  have hal:=(Plain.regionAt_lt hr).1
  have HEQ:=lh (show Plain.homeIn R0 R1 (-1 - x)=R0.findIdx? fun keys=>decide (keys.getD 0 0∈R1.getD a []) by unfold Plain.homeIn;rw[hr])
  have HFT:=lh (fun (k:Nat) (hk:k<R0.length)=>find_take (q:=fun keys=>decide (keys.getD 0 0∈R1.getD a [])) hk)
  have HFN:=lh (find_no (ll:=R0) (q:=fun keys=>decide (keys.getD 0 0∈R1.getD a [])))
  obtain⟨tb,toff,uo,uc,rfl,tcell,hrow⟩:=(HR1.out.fresh HCB.out).row hal
  have HROW:=lh hrow
  have HTC:=lh tcell
  have b0:decide (((a:Nat):Int)<0)=false:=decide_eq_false (by omega)
  obtain⟨T,hT⟩:∃ T,R1.getD a []=T:=⟨_,rfl⟩
  rw[hT] at HROW HTC HFT HFN HEQ
  rw[show ixOf (some a)=(a:Int) from rfl]
  have k0:=K0.out
  clear hr hrow tcell hT
  go_wp2
  clear k0
  go_loopw [16] (fun c wr=>∃ k:Nat,k≤R0.length∧c=.int .i64 k∧Hid (∀ i,i<k→decide ((R0.getD i []).getD 0 0∈T)=false)∧Chg [] w1 wr) (fun c _=>R0.length - (intOf c).toNat)
  case atStart=>exact⟨0,Nat.zero_le _,rfl,lh (by omega),Chg.refl _ _⟩
  case round =>
   obtain⟨k,hk,rfl,hno,hc⟩:=hrel
   have HC:=lh hc
   by_cases hlt:k<R0.length
   ·obtain⟨sb,soff,so,sc,rfl,scell,hsr⟩:=((HR0.out.fresh HCB.out).fresh hc).row hlt
    have hne:=HNE.out _ (show R0.getD k []∈R0 by simp[List.getD,hlt])
    obtain⟨qb,qoff,rfl,qc⟩:=IntsAt.cellAt hsr (i:=0) (List.length_pos_iff.2 hne)
    have HHIT:=lh (HFT.out k hlt hno.out)
    have HNO:=lh (fun (h:decide ((R0.getD k []).getD 0 0∈T)=false) i (hi:i<k+1)=>show decide ((R0.getD i []).getD 0 0∈T)=false from by
     by_cases e:i=k
     ·rw[e];exact h
     exact hno.out i (by omega))
    obtain⟨y,hy⟩:∃ y,(R0.getD k []).getD 0 0=y:=⟨_,rfl⟩
    rw[hy] at qc HHIT HNO
    rw[Nat.add_zero] at qc
    have hnl:=List.length_pos_iff.2 hne
    obtain⟨n,hn⟩:∃ n,(R0.getD k []).length=n:=⟨_,rfl⟩
    rw[hn] at scell hnl
    have m1:=hc.cell K1.out (by simp)
    have tcell:=hc.cell HTC.out (by simp)
    clear hne hsr hy hn hc
    go_wp2
    have hS0:Chg [] wr wr.drew:=(Chg.refl [] wr).drew
    refine wp_region_way (Chg [] wr) [0,1,2,3,4,5,6] (Way.line [0,1,2,3,4,5,6,7] .done) (by kernel_rfl) (by kernel_rfl) ?_
    simp only[Way.line]
    repeat
     first
      | (refine along_off rfl (by rfl) (by rfl) (fun _ _ _ h=>h) hS0 ?_;simp only[Act.put,Z1,Z2,Z3,Z4,Z5,Z6])
      | (refine along_read (v:=?_) rfl (by rfl) (by rfl) (fun _ _ _ h=>h) hS0 (fun w' hS'=>?_) ?_;rotate_left;(focus (have rd0:=hS'.cell m1 (by simp);have rd1:=hS'.cell tcell (by simp);have rd2:=hS'.cell qc (by simp);clear hS';go_simp;try with_reducible rfl));simp only[Act.put,Z1,Z2,Z3,Z4,Z5,Z6])
      | (refine along_skip rfl (by rfl) (by rfl) hS0 ?_;simp only[Act.put,Z1,Z2,Z3,Z4,Z5,Z6])
    refine along_op rfl (by rfl) (by rfl) (fun K hK=>?_)
    go_simp
    refine (contains_any _ T y _ (HROW.out.fresh (HC.out.trans hS0 (by simp)))).mono ?_
    rintro e w9 ⟨rfl,rfl⟩
    refine hK.out _ _ (fun _=>hS0) ?_
    clear hK K
    try simp only[Act.put,Z1,Z2,Z3,Z4,Z5,Z6]
    refine along_done ?_
    have HC9:=lh (HC.out.trans hS0 (by simp))
    clear hS0 m1 tcell qc scell
    generalize wr.drew=wd at *
    by_cases hin:y∈T
    ·rw[decide_eq_true hin]
     have HE:=lh (HEQ.out.trans (HHIT.out (decide_eq_true hin)))
     have HCF:=lh (HCB.out.trans HC9.out (by simp))
     clear hin
     go_wp2
     refine bodyPost_ret (v:=.tuple #[.int .i64 k,.bool true]) (by simp[results,Tryz.results199,go_sem]) rfl ?_
     exact⟨by rw[HE.out];rfl,HCF.out⟩
    rw[decide_eq_false hin]
    have HN:=lh (HNO.out (decide_eq_false hin))
    clear hin
    go_wp2
    go_roundw
    case rel=>exact⟨k+1,by omega,by go_num,HN,HC9.out⟩
    case measure=>simp[intOf];omega
   have e:k=R0.length:=by omega
   subst e
   have HE:=lh (HEQ.out.trans (HFN.out hno.out))
   have HCF:=lh (HCB.out.trans HC.out (by simp))
   clear hc
   go_wp2
   refine bodyPost_ret (v:=.tuple #[.int .i64 0,.bool false]) (by simp[results,Tryz.results199,go_sem]) rfl ?_
   exact⟨by rw[HE.out];rfl,HCF.out⟩
theorem regionsL_any (vg vp vx:Value) (g:Plain.Gr) (p:Plain.Pt) (turn same:List (List Int)) (w:World) (hpl:p.e.length≤10000) (hpv:p.v.length≤10000) (hTL:turn.length<2147483648) (hS:Plain.sumLen turn turn.length<2147483648) (hsl:same.length≤10000) (hsr:∀ i,(same.getD i []).length≤10000) (hz:Plain.planErr g p turn same=0) (hg:GrAt w vg g) (hp:PtAt w vp p) (hx:PlAt w vx turn same) :
  Calls Tryz.prog 76 #[vg,vp,vx] w fun e w'=>∃ ov vs,e=.returned (.tuple #[ov,.int .i64 0])∧RowsOwn w' w.heap.size ov vs (Plain.regionsOf g p turn same)∧RowsAt w' ov (Plain.regionsOf g p turn same)∧Chg [] w w':=by
 refine (regions_any vg vp vx g p turn same w (by omega) (by omega) hTL hS hsl hsr hg hp hx).mono ?_
 rintro e w' ⟨ov,rfl,-,hres,hc⟩
 obtain⟨vs,ll,h1,h2,h3,h4⟩:=hres hz
 have hpt:=Plain.parted hz h4
 have hreg:Plain.IsRegs g p turn same ll:=⟨h2,h3⟩
 have hsm:=Plain.regs_small hpt hreg
 have hwl:=h4.len
 have hll:ll=Plain.regionsOf g p turn same:=hreg.eq hpt
 have hrd:=h1.read fun l hl=>⟨fun x hx=>((hsm l hl).1 x hx).1,by have:=(hsm l hl).2;omega⟩
 rw[hll] at h1 hrd
 exact⟨ov,vs,by rw[hz],h1,hrd,hc⟩
set_option maxRecDepth 100000 in
set_option maxHeartbeats 8000000 in
theorem homes_any (vc vh vl:Value) (g:Plain.Gr) (p h:Plain.Pt) (turn same:List (List Int)) (v:Int) (w:World) (hpl:p.e.length≤1000) (hpv:p.v.length≤1000) (hql:h.e.length≤60) (hqv:h.v.length<60) (hT:turn.length≤100) (hr:∀ i,(turn.getD i []).length≤200) (hS:Plain.sumLen turn turn.length<2147483648) (hsl:same.length≤10000) (hsr:∀ i,(same.getD i []).length≤10000)
  (hz:Plain.planErr g p turn same=0) (he:h.err g=0) (hs1:Plain.subB h.v p.v=true) (hs2:Plain.subB h.e p.e=true) (hv:v∈p.v) (hc:CaseAt w vc g p turn same) (hh:PtC w vh h) (hl:IntsAt w vl [v]) :
  Calls Tryz.prog 137 #[vc,vh,vl] w fun e w'=>∃ ab ob v1 v0,e=.returned (.tuple #[.func (.func 199) #[] #[.pointer (some ⟨ab,0,none⟩),.pointer (some ⟨ob,0,none⟩)],.bool true])∧w'.cell? ⟨ab,0,none⟩=some v1∧w'.cell? ⟨ob,0,none⟩=some v0 ∧
   RowsAt w' v1 (Plain.regionsOf g (Plain.orPt h ⟨[v],[]⟩) (Plain.restTurn (Plain.orPt h ⟨[v],[]⟩).e turn) (Plain.restSame g p (Plain.orPt h ⟨[v],[]⟩) turn same))∧RowsAt w' v0 (Plain.regionsOf g h (Plain.restTurn h.e turn) (Plain.restSame g p h turn same))∧Chg [] w w':=by
 have HS1:=lh hS
 have HSR:=lh hsr
 have HROWS:=lh hr
 have HZ:=lh hz
 have HE:=lh he
 have HCA:=lh hc
 have HH:=lh hh
 have HL:=lh hl
 have hpe:=(Plain.zero_ok hz).1
 have hvr:=(Plain.Pt.ok_of_err hpe).vr v hv
 have hvq:(⟨[v],[]⟩:Plain.Pt).err g=0:=Plain.Pt.err_of (Plain.Pt.err_ok hpe).1 (Plain.rises_of (List.pairwise_singleton _ _) (by simpa using hvr)) rfl (by simp)
 have hqe:=Plain.orPt_err he hvq
 have hqv1:Plain.subB (Plain.orPt h ⟨[v],[]⟩).v p.v=true:=Plain.subB_iff.2 fun x hx=>(Plain.mem_orL.1 hx).elim (Plain.subB_iff.1 hs1 x) fun e=>by rw[List.mem_singleton.1 e];exact hv
 have hqv2:Plain.subB (Plain.orPt h ⟨[v],[]⟩).e p.e=true:=Plain.subB_iff.2 fun x hx=>(Plain.mem_orL.1 hx).elim (Plain.subB_iff.1 hs2 x) fun e=>by simp at e
 have hl1:(Plain.orPt h ⟨[v],[]⟩).v.length≤60:=by have:=Plain.orL_len h.v [v];simp at this;exact Nat.le_trans this (by omega)
 have hl2:(Plain.orPt h ⟨[v],[]⟩).e.length≤60:=by have:=Plain.orL_len h.e [];simp at this;exact Nat.le_trans this (by omega)
 have HRH:=lh (restErr_zero (turn:=turn) (same:=same) hz he hs1 hs2)
 have HRQ:=lh (restErr_zero (turn:=turn) (same:=same) hz hqe hqv1 hqv2)
 have HPH:=lh (Plain.rest_right hz he (Plain.subB_iff.1 hs2) (Plain.subB_iff.1 hs1))
 have HPQ:=lh (Plain.rest_right hz hqe (Plain.subB_iff.1 hqv2) (Plain.subB_iff.1 hqv1))
 have HML:=lh (show (⟨Plain.mergeL true h.v [v],Plain.mergeL true h.e []⟩:Plain.Pt)=Plain.orPt h ⟨[v],[]⟩ by rw[Plain.mergeL_one,Plain.mergeL_one];rfl)
 obtain⟨q,hq⟩:∃ q,Plain.orPt h ⟨[v],[]⟩=q:=⟨_,rfl⟩
 rw[hq] at hl1 hl2 HRQ HPQ HML ⊢
 obtain⟨s1,s2,s3,s4,s5⟩:=Plain.rest_sizes HRH.out (by omega) hql hT hr
 obtain⟨t1,t2,t3,t4,t5⟩:=Plain.rest_sizes HRQ.out hl1 hl2 hT hr
 have HS5:=lh s5
 have HT5:=lh t5
 have IV:I64 v:=I64.mk (by omega) (by have:=(Plain.Gr.err_ok (Plain.Pt.err_ok hpe).1).2.1;omega)
 obtain⟨eo,cap,ao,ac,bo,bc,tno,tc,so,sc,rfl,hg,hp,hx⟩:=hc.shape
 obtain⟨co,cc,fo,fc,rfl⟩:=hh.shape
 have HG:=lh hg
 have HP:=lh hp.at
 have HXP:=lh hx
 obtain⟨lo,lc,rfl,-⟩:=hl
 clear hg hp hx hc hh hS hsr hr hz he hvq hqe hqv1 hqv2 hpe hvr s5 t5 hs1 hs2 hv s2 t2 hq
 have HXC:=lh (show Chg [] w ((w.alloc (.cells #[.int .i64 g.n,.slice eo g.e.length cap,.slice ao p.v.length ac,.slice bo p.e.length bc,.slice tno turn.length tc,.slice so same.length sc] 34)).alloc (.cells #[.slice co h.v.length cc,.slice fo h.e.length fc] 29)) from (show Chg [] w ((w.alloc (.cells #[.int .i64 g.n,.slice eo g.e.length cap,.slice ao p.v.length ac,.slice bo p.e.length bc,.slice tno turn.length tc,.slice so same.length sc] 34)).alloc (.cells #[.slice co h.v.length cc,.slice fo h.e.length fc] 29)) from (((Chg.refl [] w).alloc _).alloc _)))
 have qbx0:=heap_alloc_new w (.cells #[.int .i64 g.n,.slice eo g.e.length cap,.slice ao p.v.length ac,.slice bo p.e.length bc,.slice tno turn.length tc,.slice so same.length sc] 34)
 replace qbx0:=(show Chg [] (w.alloc (.cells #[.int .i64 g.n,.slice eo g.e.length cap,.slice ao p.v.length ac,.slice bo p.e.length bc,.slice tno turn.length tc,.slice so same.length sc] 34)) ((w.alloc (.cells #[.int .i64 g.n,.slice eo g.e.length cap,.slice ao p.v.length ac,.slice bo p.e.length bc,.slice tno turn.length tc,.slice so same.length sc] 34)).alloc (.cells #[.slice co h.v.length cc,.slice fo h.e.length fc] 29)) from ((Chg.refl [] (w.alloc (.cells #[.int .i64 g.n,.slice eo g.e.length cap,.slice ao p.v.length ac,.slice bo p.e.length bc,.slice tno turn.length tc,.slice so same.length sc] 34))).alloc _)).heap qbx0 (by simp)
 have qbx1:=heap_alloc_new (w.alloc (.cells #[.int .i64 g.n,.slice eo g.e.length cap,.slice ao p.v.length ac,.slice bo p.e.length bc,.slice tno turn.length tc,.slice so same.length sc] 34)) (.cells #[.slice co h.v.length cc,.slice fo h.e.length fc] 29)
 rw[show (w.alloc (.cells #[.int .i64 g.n,.slice eo g.e.length cap,.slice ao p.v.length ac,.slice bo p.e.length bc,.slice tno turn.length tc,.slice so same.length sc] 34)).heap.size=w.heap.size+1 by simp] at qbx1
 have HX:=lh (fun (w2:World) (hbx:Chg [] ((w.alloc (.cells #[.int .i64 g.n,.slice eo g.e.length cap,.slice ao p.v.length ac,.slice bo p.e.length bc,.slice tno turn.length tc,.slice so same.length sc] 34)).alloc (.cells #[.slice co h.v.length cc,.slice fo h.e.length fc] 29)) w2)=>(⟨hbx.cell ((cell_of_row _ _ 0 _ _ _ qbx0).trans rfl) (by simp),hbx.cell ((cell_of_row _ _ 1 _ _ _ qbx0).trans rfl) (by simp),hbx.cell ((cell_of_row _ _ 2 _ _ _ qbx0).trans rfl) (by simp),hbx.cell ((cell_of_row _ _ 3 _ _ _ qbx0).trans rfl) (by simp),hbx.cell ((cell_of_row _ _ 4 _ _ _ qbx0).trans rfl) (by simp),hbx.cell ((cell_of_row _ _ 5 _ _ _ qbx0).trans rfl) (by simp),hbx.cell ((cell_of_row _ _ 0 _ _ _ qbx1).trans rfl) (by simp),hbx.cell ((cell_of_row _ _ 1 _ _ _ qbx1).trans rfl) (by simp),by have hz:=hbx.size;simpa using hz⟩:w2.cell? ⟨w.heap.size,0,none⟩=some (.int .i64 g.n)∧w2.cell? ⟨w.heap.size,1,none⟩=some (.slice eo g.e.length cap)∧w2.cell? ⟨w.heap.size,2,none⟩=some (.slice ao p.v.length ac)∧w2.cell? ⟨w.heap.size,3,none⟩=some (.slice bo p.e.length bc)∧w2.cell? ⟨w.heap.size,4,none⟩=some (.slice tno turn.length tc)∧w2.cell? ⟨w.heap.size,5,none⟩=some (.slice so same.length sc)∧w2.cell? ⟨w.heap.size+1,0,none⟩=some (.slice co h.v.length cc)∧w2.cell? ⟨w.heap.size+1,1,none⟩=some (.slice fo h.e.length fc)∧w.heap.size+2≤w2.heap.size))
 clear qbx0 qbx1
 have HXZ:=lh (show ((w.alloc (.cells #[.int .i64 g.n,.slice eo g.e.length cap,.slice ao p.v.length ac,.slice bo p.e.length bc,.slice tno turn.length tc,.slice so same.length sc] 34)).alloc (.cells #[.slice co h.v.length cc,.slice fo h.e.length fc] 29)).heap.size=w.heap.size+2 by simp)
 obtain⟨c0,c1,c2,c3,c4,c5,q0,q1,hsz⟩:=HX.out _ (Chg.refl _ _)
 go_enter Tryz.func137,Tryz.ntmps137
 go_wp2_with fail
 generalize ((w.alloc (.cells #[.int .i64 g.n,.slice eo g.e.length cap,.slice ao p.v.length ac,.slice bo p.e.length bc,.slice tno turn.length tc,.slice so same.length sc] 34)).alloc (.cells #[.slice co h.v.length cc,.slice fo h.e.length fc] 29))=w1 at *
 refine (clone_any _ [v] _ (by simp) (HL.out.fresh HXC.out)).mono ?_
 rintro e w2 ⟨mv,rfl,hm2,hc2⟩
 have HC2:=lh hc2
 have HM2:=lh hm2
 clear c0 c1 c2 c3 c4 c5 q0 q1 hsz hc2 hm2
 go_wp2_with fail
 refine (sortI_any _ [v] _ _ (by simp) HM2.out).mono ?_
 rintro e w3 ⟨rfl,hm3,hc3⟩
 rw[List.mergeSort_singleton] at hm3
 have HM3:=lh hm3
 have HC3:=lh (HC2.out.trans hc3 (fun j hj=>Or.inr (HM2.out.low j hj).1))
 clear hm3 hc3
 obtain⟨mo,mc,rfl⟩:=HM3.out.shape
 obtain⟨c0,c1,c2,c3,c4,c5,q0,q1,hsz⟩:=HX.out _ HC3.out
 clear c0 c1 c2 c3 c4 c5
 go_wp2
 go_cut [9] (fun c9 wc=>∃ pb a1 k1 a2 k2,c9=.pointer (some ⟨pb,0,none⟩)∧wc.cell? ⟨pb,0,none⟩=some (.slice a1 q.v.length k1)∧wc.cell? ⟨pb,1,none⟩=some (.slice a2 q.e.length k2)∧PtC wc (.agg #[.slice a1 q.v.length k1,.slice a2 q.e.length k2]) q∧Chg [] w1 wc)
 case first =>
  have hS0:Chg [] w1 w3.drew:=HC3.out.drew
  refine wp_region_way (Chg [] w1) [0,1,3] (.then_ 0 (.then_ 1 (.fork 2 5 (.then_ 3 (.fork 4 5 (.then_ 5 (.then_ 6 .done)) (.then_ 4 (.then_ 6 .done)))) (.then_ 2 (.then_ 3 (.then_ 4 (.then_ 6 .done))))))) (by kernel_rfl) (by kernel_rfl) ?_
  have HM0:=lh (HM3.out.chg ((Chg.refl [] w3).drew) (by simp))
  have HDS:=lh (show w3.heap.size≤w3.drew.heap.size from Nat.le_refl _)
  clear q0 q1 hsz
  obtain⟨-,-,-,-,-,-,q0,q1,hsz⟩:=HX.out _ (Chg.refl [] w1)
  generalize w3.drew=u0 at *
  repeat
   first
    | (refine along_off rfl (by rfl) (by rfl) (fun _ _ _ h=>h) hS0 ?_;simp only[Act.put,Z1,Z2,Z3,Z4,Z5,Z6])
    | (refine along_read (v:=?_) rfl (by rfl) (by rfl) (fun _ _ _ h=>h) hS0 (fun w' hS'=>?_) ?_;rotate_left;(focus (have rd0:=hS'.cell q0 (by simp);have rd1:=hS'.cell q1 (by simp);clear hS';go_simp;try with_reducible rfl));simp only[Act.put,Z1,Z2,Z3,Z4,Z5,Z6])
    | (refine along_skip rfl (by rfl) (by rfl) hS0 ?_;simp only[Act.put,Z1,Z2,Z3,Z4,Z5,Z6])
  clear q0 q1 hsz
  refine along_fork (by rfl) (by rfl) ?_ ?_
  ·skip
   refine along_op rfl (by rfl) (by rfl) (fun K hK=>?_)
   go_simp
   refine (compactI_any _ [v] _ u0 (by simp) HM0.out).mono ?_
   rintro e u1 ⟨cv,rfl,hcr,hcx⟩
   rw[show Go.Lib.compact [v]=[v] from rfl] at hcr
   have HCR:=lh hcr
   have CX:=lh hcx
   have hS1:=hS0.trans hcx (fun j hj=>Or.inr (HM0.out.low j hj).1)
   clear hS0 hcx hcr
   have hS0:=hS1
   clear hS1
   refine hK.out _ _ (fun _=>hS0) ?_
   clear hK K
   try simp only[Act.put,Z1,Z2,Z3,Z4,Z5,Z6]
   obtain⟨cvo,cvc,rfl⟩:=HCR.out.shape
   repeat
    first
     | (refine along_off rfl (by rfl) (by rfl) (fun _ _ _ h=>h) hS0 ?_;simp only[Act.put,Z1,Z2,Z3,Z4,Z5,Z6])
     | (refine along_read (v:=?_) rfl (by rfl) (by rfl) (fun _ _ _ h=>h) hS0 (fun w' hS'=>?_) ?_;rotate_left;(focus (skip;clear hS';go_simp;try with_reducible rfl));simp only[Act.put,Z1,Z2,Z3,Z4,Z5,Z6])
     | (refine along_skip rfl (by rfl) (by rfl) hS0 ?_;simp only[Act.put,Z1,Z2,Z3,Z4,Z5,Z6])
   refine along_fork (by rfl) (by rfl) ?_ ?_
   ·skip
    have HCRX:=lh HCR.out
    refine along_op rfl (by rfl) (by rfl) (fun K hK=>?_)
    go_simp
    refine (or_low _ _ h ⟨[v],[]⟩ u1 (by omega) (by omega) (by simp) (by simp) (HH.out.fresh (HXC.out.trans hS0 (by simp))) ⟨_,_,rfl,⟨HCRX.out.ints,CapOk.row HCRX.out⟩,⟨IntsAt.nil _,none,0,0,rfl,by decide,by decide⟩⟩).mono ?_
    rintro e u2 ⟨ov,rfl,hor,hcx⟩
    rw[HML.out] at hor
    have HOR:=lh hor
    obtain⟨a1,k1,a2,k2,rfl⟩:=(hor [] u2 (Chg.refl _ _) (by simp)).shape
    have OX:=lh hcx
    have hS1:=hS0.trans hcx (by simp)
    clear hS0 hcx hor
    have hS0:=hS1
    clear hS1
    refine hK.out _ _ (fun _=>hS0) ?_
    clear hK K
    try simp only[Act.put,Z1,Z2,Z3,Z4,Z5,Z6]
    refine along_op rfl (by rfl) (by rfl) (fun K hK=>?_)
    go_simp
    have hS1:=hS0.alloc (.cells #[.slice none 0 0,.slice none 0 0] 29)
    have PR:=lh (heap_alloc_new u2 (.cells #[.slice none 0 0,.slice none 0 0] 29))
    have PC:=lh (show Chg [] u2 (u2.alloc (.cells #[.slice none 0 0,.slice none 0 0] 29)) from (Chg.refl [] _).alloc _)
    refine hK.out _ _ (fun _=>hS1) ?_
    clear hK K hS0
    have hS0:=hS1
    clear hS1
    try simp only[Act.put,Z1,Z2,Z3,Z4,Z5,Z6]
    obtain⟨pb,hpb⟩:∃ b,u2.heap.size=b:=⟨_,rfl⟩
    have PB:=lh hpb
    rw[hpb] at PR ⊢
    clear hpb
    generalize (u2.alloc (.cells #[.slice none 0 0,.slice none 0 0] 29))=u3 at *
    have HPBL:=lh (show w1.heap.size≤pb by rw[←PB.out];exact Nat.le_trans (Nat.le_trans HC3.out.size (Nat.le_refl _)) (by have h1:=HDS.out;have h2:=CX.out.size;have h3:=OX.out.size;omega))
    have r0:=(cell_of_row _ _ 0 _ _ _ PR.out).trans (show _=some (Value.slice none 0 0) from rfl)
    have r1:=(cell_of_row _ _ 1 _ _ _ PR.out).trans (show _=some (Value.slice none 0 0) from rfl)
    have f0:=free_at PR.out 0
    have f1:=free_at PR.out 1
    refine along_op rfl (by rfl) (by rfl) (fun K hK=>?_)
    go_simp
    refine hK.out _ _ (fun h=>absurd h (Bool.eq_false_iff.1 (by kernel_rfl))) ?_
    clear hK K r0 r1 f0 f1
    try simp only[Act.put,Z1,Z2,Z3,Z4,Z5,Z6]
    obtain⟨-,o0,o1,cst⟩:=out_store2 PR.out (.slice a1 q.v.length k1) (.slice a2 q.e.length k2)
    refine along_done ?_
    have O0:=lh o0
    have O1:=lh o1
    have CST:=lh cst
    have HSF:=lh hS0
    clear o0 o1 cst hS0
    generalize ((u3.setCell ⟨pb,0,none⟩ (.slice a1 q.v.length k1)).setCell ⟨pb,1,none⟩ (.slice a2 q.e.length k2))=uF at *
    go_wp2
    go_meet
    case rel=>exact⟨pb,a1,k1,a2,k2,rfl,O0.out,O1.out,HOR.out [] _ (PC.out.trans CST.out (fun j hj=>Or.inr (by rw[List.mem_singleton.1 hj,←PB.out];exact Nat.le_refl _))) (by simp),HSF.out.trans CST.out (fun j hj=>Or.inr (by rw[List.mem_singleton.1 hj];exact HPBL.out))⟩
   skip
   refine along_op rfl (by rfl) (by rfl) (fun K hK=>?_)
   go_simp
   have hS1:=hS0.alloc (.cells #[.slice none 0 0,.slice none 0 0] 29)
   have PR:=lh (heap_alloc_new u1 (.cells #[.slice none 0 0,.slice none 0 0] 29))
   have PC:=lh (show Chg [] u1 (u1.alloc (.cells #[.slice none 0 0,.slice none 0 0] 29)) from (Chg.refl [] _).alloc _)
   refine hK.out _ _ (fun _=>hS1) ?_
   clear hK K hS0
   have hS0:=hS1
   clear hS1
   try simp only[Act.put,Z1,Z2,Z3,Z4,Z5,Z6]
   obtain⟨pb,hpb⟩:∃ b,u1.heap.size=b:=⟨_,rfl⟩
   have PB:=lh hpb
   rw[hpb] at PR ⊢
   clear hpb
   generalize (u1.alloc (.cells #[.slice none 0 0,.slice none 0 0] 29))=u2 at *
   have HCRX:=lh (HCR.out.chg PC.out (by simp))
   have HPBL:=lh (show w1.heap.size≤pb by rw[←PB.out];have h0:=HC3.out.size;have h1:=HDS.out;have h2:=CX.out.size;omega)
   have PLT:=lh (show pb<u2.heap.size from lt_of_block PR.out)
   refine along_op rfl (by rfl) (by rfl) (fun K hK=>?_)
   go_simp
   refine (or_low _ _ h ⟨[v],[]⟩ u2 (by omega) (by omega) (by simp) (by simp) (HH.out.fresh (HXC.out.trans hS0 (by simp))) ⟨_,_,rfl,⟨HCRX.out.ints,CapOk.row HCRX.out⟩,⟨IntsAt.nil _,none,0,0,rfl,by decide,by decide⟩⟩).mono ?_
   rintro e u3 ⟨ov,rfl,hor,hcx⟩
   rw[HML.out] at hor
   have HOR:=lh hor
   obtain⟨a1,k1,a2,k2,rfl⟩:=(hor [] u3 (Chg.refl _ _) (by simp)).shape
   have OX:=lh hcx
   have hS1:=hS0.trans hcx (by simp)
   clear hS0 hcx hor
   have hS0:=hS1
   clear hS1
   refine hK.out _ _ (fun _=>hS0) ?_
   clear hK K
   try simp only[Act.put,Z1,Z2,Z3,Z4,Z5,Z6]
   have PR3:=lh (OX.out.heap PR.out (by simp))
   have r0:=(cell_of_row _ _ 0 _ _ _ PR3.out).trans (show _=some (Value.slice none 0 0) from rfl)
   have r1:=(cell_of_row _ _ 1 _ _ _ PR3.out).trans (show _=some (Value.slice none 0 0) from rfl)
   have f0:=free_at PR3.out 0
   have f1:=free_at PR3.out 1
   refine along_op rfl (by rfl) (by rfl) (fun K hK=>?_)
   go_simp
   refine hK.out _ _ (fun h=>absurd h (Bool.eq_false_iff.1 (by kernel_rfl))) ?_
   clear hK K r0 r1 f0 f1
   try simp only[Act.put,Z1,Z2,Z3,Z4,Z5,Z6]
   obtain⟨-,o0,o1,cst⟩:=out_store2 PR3.out (.slice a1 q.v.length k1) (.slice a2 q.e.length k2)
   refine along_done ?_
   have O0:=lh o0
   have O1:=lh o1
   have CST:=lh cst
   have HSF:=lh hS0
   clear o0 o1 cst hS0
   generalize ((u3.setCell ⟨pb,0,none⟩ (.slice a1 q.v.length k1)).setCell ⟨pb,1,none⟩ (.slice a2 q.e.length k2))=uF at *
   go_wp2
   go_meet
   case rel=>exact⟨pb,a1,k1,a2,k2,rfl,O0.out,O1.out,HOR.out [pb] _ CST.out (fun j hj=>by rw[List.mem_singleton.1 hj];exact PLT.out),HSF.out.trans CST.out (fun j hj=>Or.inr (by rw[List.mem_singleton.1 hj];exact HPBL.out))⟩
  skip
  refine along_op rfl (by rfl) (by rfl) (fun K hK=>?_)
  go_simp
  have hS1:=hS0.alloc (.cells #[.slice none 0 0,.slice none 0 0] 29)
  have PR:=lh (heap_alloc_new u0 (.cells #[.slice none 0 0,.slice none 0 0] 29))
  have PC:=lh (show Chg [] u0 (u0.alloc (.cells #[.slice none 0 0,.slice none 0 0] 29)) from (Chg.refl [] _).alloc _)
  refine hK.out _ _ (fun _=>hS1) ?_
  clear hK K hS0
  have hS0:=hS1
  clear hS1
  try simp only[Act.put,Z1,Z2,Z3,Z4,Z5,Z6]
  obtain⟨pb,hpb⟩:∃ b,u0.heap.size=b:=⟨_,rfl⟩
  have PB:=lh hpb
  rw[hpb] at PR ⊢
  clear hpb
  generalize (u0.alloc (.cells #[.slice none 0 0,.slice none 0 0] 29))=u1 at *
  have HM1:=lh (HM0.out.chg PC.out (by simp))
  have PLT0:=lh (show pb<u1.heap.size from lt_of_block PR.out)
  refine along_op rfl (by rfl) (by rfl) (fun K hK=>?_)
  go_simp
  refine (compactI_any _ [v] _ u1 (by simp) HM1.out).mono ?_
  rintro e u2 ⟨cv,rfl,hcr,hcx⟩
  rw[show Go.Lib.compact [v]=[v] from rfl] at hcr
  have HCR:=lh hcr
  have CX:=lh hcx
  have hS1:=hS0.trans hcx (fun j hj=>Or.inr (HM1.out.low j hj).1)
  clear hS0 hcx hcr
  have hS0:=hS1
  clear hS1
  refine hK.out _ _ (fun _=>hS0) ?_
  clear hK K
  try simp only[Act.put,Z1,Z2,Z3,Z4,Z5,Z6]
  obtain⟨cvo,cvc,rfl⟩:=HCR.out.shape
  repeat
   first
    | (refine along_off rfl (by rfl) (by rfl) (fun _ _ _ h=>h) hS0 ?_;simp only[Act.put,Z1,Z2,Z3,Z4,Z5,Z6])
    | (refine along_read (v:=?_) rfl (by rfl) (by rfl) (fun _ _ _ h=>h) hS0 (fun w' hS'=>?_) ?_;rotate_left;(focus (skip;clear hS';go_simp;try with_reducible rfl));simp only[Act.put,Z1,Z2,Z3,Z4,Z5,Z6])
    | (refine along_skip rfl (by rfl) (by rfl) hS0 ?_;simp only[Act.put,Z1,Z2,Z3,Z4,Z5,Z6])
  have PR2:=lh (CX.out.heap PR.out (fun e=>by have:=(HM0.out.low _ e).2;have:=PB.out;omega))
  have HCRX:=lh HCR.out
  have HPBL:=lh (show w1.heap.size≤pb by rw[←PB.out];have h0:=HC3.out.size;have h1:=HDS.out;omega)
  have PLT:=lh (show pb<u2.heap.size from Nat.lt_of_lt_of_le PLT0.out CX.out.size)
  refine along_op rfl (by rfl) (by rfl) (fun K hK=>?_)
  go_simp
  refine (or_low _ _ h ⟨[v],[]⟩ u2 (by omega) (by omega) (by simp) (by simp) (HH.out.fresh (HXC.out.trans hS0 (by simp))) ⟨_,_,rfl,⟨HCRX.out.ints,CapOk.row HCRX.out⟩,⟨IntsAt.nil _,none,0,0,rfl,by decide,by decide⟩⟩).mono ?_
  rintro e u3 ⟨ov,rfl,hor,hcx⟩
  rw[HML.out] at hor
  have HOR:=lh hor
  obtain⟨a1,k1,a2,k2,rfl⟩:=(hor [] u3 (Chg.refl _ _) (by simp)).shape
  have OX:=lh hcx
  have hS1:=hS0.trans hcx (by simp)
  clear hS0 hcx hor
  have hS0:=hS1
  clear hS1
  refine hK.out _ _ (fun _=>hS0) ?_
  clear hK K
  try simp only[Act.put,Z1,Z2,Z3,Z4,Z5,Z6]
  have PR3:=lh (OX.out.heap PR2.out (by simp))
  have r0:=(cell_of_row _ _ 0 _ _ _ PR3.out).trans (show _=some (Value.slice none 0 0) from rfl)
  have r1:=(cell_of_row _ _ 1 _ _ _ PR3.out).trans (show _=some (Value.slice none 0 0) from rfl)
  have f0:=free_at PR3.out 0
  have f1:=free_at PR3.out 1
  refine along_op rfl (by rfl) (by rfl) (fun K hK=>?_)
  go_simp
  refine hK.out _ _ (fun h=>absurd h (Bool.eq_false_iff.1 (by kernel_rfl))) ?_
  clear hK K r0 r1 f0 f1
  try simp only[Act.put,Z1,Z2,Z3,Z4,Z5,Z6]
  obtain⟨-,o0,o1,cst⟩:=out_store2 PR3.out (.slice a1 q.v.length k1) (.slice a2 q.e.length k2)
  refine along_done ?_
  have O0:=lh o0
  have O1:=lh o1
  have CST:=lh cst
  have HSF:=lh hS0
  clear o0 o1 cst hS0
  generalize ((u3.setCell ⟨pb,0,none⟩ (.slice a1 q.v.length k1)).setCell ⟨pb,1,none⟩ (.slice a2 q.e.length k2))=uF at *
  go_wp2
  go_meet
  case rel=>exact⟨pb,a1,k1,a2,k2,rfl,O0.out,O1.out,HOR.out [pb] _ CST.out (fun j hj=>by rw[List.mem_singleton.1 hj];exact PLT.out),HSF.out.trans CST.out (fun j hj=>Or.inr (by rw[List.mem_singleton.1 hj];exact HPBL.out))⟩
 case rest =>
  obtain⟨pb,a1,k1,a2,k2,rfl,p0,p1,hq2,hcw⟩:=hcut
  have HQ:=lh hq2
  have P0:=lh p0
  have P1:=lh p1
  have HC4:=lh hcw
  have HW4:=lh (HXC.out.trans hcw (by simp))
  have HSZ4:=lh (HX.out _ (Chg.refl _ _)).2.2.2.2.2.2.2.2
  clear hq2 p0 p1 q0 q1 hsz
  obtain⟨c0,c1,c2,c3,c4,c5,q0,q1,hsz⟩:=HX.out _ hcw
  clear hcw
  go_wp2_with fail
  refine (restTo_any _ _ _ _ g p h turn same _ (by omega) (by omega) (by omega) (by omega) (by omega) HS1.out hsl HSR.out (HG.out.fresh HW4.out) (HP.out.fresh HW4.out) (HXP.out.fresh HW4.out) (HH.out.at.fresh HW4.out)).mono ?_
  rintro e w5 ⟨ov,rfl,-,hyes,hc5⟩
  have hyes:=hyes HRH.out
  rw[HRH.out]
  have HY0:=lh hyes
  obtain⟨u1,u2,rfl,⟨p3,k3,rfl,-⟩,⟨p4,k4,rfl,-⟩⟩:=hyes
  obtain⟨A1,hA1⟩:∃ x,Plain.restTurn h.e turn=x:=⟨_,rfl⟩
  obtain⟨A2,hA2⟩:∃ x,Plain.restSame g p h turn same=x:=⟨_,rfl⟩
  rw[hA1,hA2] at HY0 HPH ⊢
  rw[hA1] at s1 s3
  rw[hA2] at s4 HS5
  have HA1:=lh hA1
  have HA2:=lh hA2
  have hset:Chg [] w5 (w5.alloc (.cells #[.slice p3 A1.length k3,.slice p4 A2.length k4] 32)):=(Chg.refl [] w5).alloc _
  have hheap:=heap_alloc_new w5 (.cells #[.slice p3 A1.length k3,.slice p4 A2.length k4] 32)
  have M0:=lh ((cell_of_row _ _ 0 _ _ _ hheap).trans (show _=some (Value.slice p3 A1.length k3) from rfl))
  have M1:=lh ((cell_of_row _ _ 1 _ _ _ hheap).trans (show _=some (Value.slice p4 A2.length k4) from rfl))
  have HC56:=lh hset
  have HC46:=lh (hc5.trans hset (by simp))
  have HC6:=lh (HC4.out.trans HC46.out (by simp))
  clear c0 c1 c2 c3 c4 c5 q0 q1 hsz hc5 hset hheap hA1 hA2
  obtain⟨c0,c1,c2,c3,c4,c5,q0,q1,hsz⟩:=HX.out _ HC6.out
  have p0:=HC46.out.cell P0.out (by simp)
  have p1:=HC46.out.cell P1.out (by simp)
  go_wp2_with fail
  generalize (w5.alloc (.cells #[.slice p3 A1.length k3,.slice p4 A2.length k4] 32))=w6 at *
  generalize w5.heap.size=xb at *
  have HW6:=lh (HXC.out.trans HC6.out (by simp))
  refine (restTo_any _ _ _ _ g p q turn same _ (by omega) (by omega) (by omega) (by omega) (by omega) HS1.out hsl HSR.out (HG.out.fresh HW6.out) (HP.out.fresh HW6.out) (HXP.out.fresh HW6.out) (HQ.out.at.fresh HC46.out)).mono ?_
  rintro e w7 ⟨ov,rfl,-,hyes,hc7⟩
  have hyes:=hyes HRQ.out
  rw[HRQ.out]
  have HY1:=lh hyes
  obtain⟨u1,u2,rfl,⟨p5,k5,rfl,-⟩,⟨p6,k6,rfl,-⟩⟩:=hyes
  obtain⟨B1,hB1⟩:∃ x,Plain.restTurn q.e turn=x:=⟨_,rfl⟩
  obtain⟨B2,hB2⟩:∃ x,Plain.restSame g p q turn same=x:=⟨_,rfl⟩
  rw[hB1,hB2] at HY1 HPQ ⊢
  rw[hB1] at t1 t3
  rw[hB2] at t4 HT5
  have HB1:=lh hB1
  have HB2:=lh hB2
  have hset:Chg [] w7 (w7.alloc (.cells #[.slice p5 B1.length k5,.slice p6 B2.length k6] 32)):=(Chg.refl [] w7).alloc _
  have hheap:=heap_alloc_new w7 (.cells #[.slice p5 B1.length k5,.slice p6 B2.length k6] 32)
  have N0:=lh ((cell_of_row _ _ 0 _ _ _ hheap).trans (show _=some (Value.slice p5 B1.length k5) from rfl))
  have N1:=lh ((cell_of_row _ _ 1 _ _ _ hheap).trans (show _=some (Value.slice p6 B2.length k6) from rfl))
  have HC78:=lh hset
  have HC68:=lh (hc7.trans hset (by simp))
  have HC8:=lh (HC6.out.trans HC68.out (by simp))
  have HC48:=lh (HC46.out.trans HC68.out (by simp))
  have HC58:=lh (HC56.out.trans HC68.out (by simp))
  clear c0 c1 c2 c3 c4 c5 q0 q1 hsz hc7 hset hheap hB1 hB2 p0 p1
  obtain⟨c0,c1,c2,c3,c4,c5,q0,q1,hsz⟩:=HX.out _ HC8.out
  have m0:=HC68.out.cell M0.out (by simp)
  have m1:=HC68.out.cell M1.out (by simp)
  go_wp2_with fail
  generalize (w7.alloc (.cells #[.slice p5 B1.length k5,.slice p6 B2.length k6] 32))=w8 at *
  generalize w7.heap.size=yb at *
  have HW8:=lh (HXC.out.trans HC8.out (by simp))
  refine (regionsL_any _ _ _ g h A1 A2 _ (by omega) (by omega) (by omega) (by omega) (by omega) (fun i=>Nat.le_trans (HS5.out i) (by decide)) HPH.out (HG.out.fresh HW8.out) (HH.out.at.fresh HW8.out) (HY0.out.fresh HC58.out)).mono ?_
  rintro e w9 ⟨rv0,vs0,rfl,-,hr0,hc9⟩
  obtain⟨R0,hR0⟩:∃ R,Plain.regionsOf g h A1 A2=R:=⟨_,rfl⟩
  rw[hR0] at hr0
  have HR0:=lh hr0
  have HRE0:=lh hR0
  obtain⟨ro0,rc0,rfl,-⟩:=hr0
  have hset:Chg [] w9 (w9.alloc (.cells #[.slice ro0 R0.length rc0] 30)):=(Chg.refl [] w9).alloc _
  have hheap:=heap_alloc_new w9 (.cells #[.slice ro0 R0.length rc0] 30)
  have L0:=lh ((cell_of_row _ _ 0 _ _ _ hheap).trans (show _=some (Value.slice ro0 R0.length rc0) from rfl))
  have HC9a:=lh hset
  have HC810:=lh (hc9.trans hset (by simp))
  have HC10:=lh (HC8.out.trans HC810.out (by simp))
  have HC410:=lh (HC48.out.trans HC810.out (by simp))
  have HC710:=lh (HC78.out.trans HC810.out (by simp))
  clear c0 c1 c2 c3 c4 c5 q0 q1 hsz hc9 hset hheap hR0 m0 m1
  obtain⟨c0,c1,c2,c3,c4,c5,q0,q1,hsz⟩:=HX.out _ HC10.out
  have p0:=HC410.out.cell P0.out (by simp)
  have p1:=HC410.out.cell P1.out (by simp)
  have n0:=HC810.out.cell N0.out (by simp)
  have n1:=HC810.out.cell N1.out (by simp)
  go_wp2_with fail
  generalize (w9.alloc (.cells #[.slice ro0 R0.length rc0] 30))=w10 at *
  generalize w9.heap.size=ob at *
  have HW10:=lh (HXC.out.trans HC10.out (by simp))
  refine (regionsL_any _ _ _ g q B1 B2 _ (by omega) (by omega) (by omega) (by omega) (by omega) (fun i=>Nat.le_trans (HT5.out i) (by decide)) HPQ.out (HG.out.fresh HW10.out) (HQ.out.at.fresh HC410.out) (HY1.out.fresh HC710.out)).mono ?_
  rintro e w11 ⟨rv1,vs1,rfl,-,hr1,hc11⟩
  obtain⟨R1,hR1⟩:∃ R,Plain.regionsOf g q B1 B2=R:=⟨_,rfl⟩
  rw[hR1] at hr1
  have HR1:=lh hr1
  have HRE1:=lh hR1
  obtain⟨ro1,rc1,rfl,-⟩:=hr1
  have hset:Chg [] w11 (w11.alloc (.cells #[.slice ro1 R1.length rc1] 30)):=(Chg.refl [] w11).alloc _
  have hheap:=heap_alloc_new w11 (.cells #[.slice ro1 R1.length rc1] 30)
  have L1:=lh ((cell_of_row _ _ 0 _ _ _ hheap).trans (show _=some (Value.slice ro1 R1.length rc1) from rfl))
  have HC1112:=lh hset
  have HC1012:=lh (hc11.trans hset (by simp))
  have HW12:=lh (HW10.out.trans HC1012.out (by simp))
  have L02:=lh (HC1012.out.cell L0.out (by simp))
  have HR012:=lh (HR0.out.fresh (HC9a.out.trans HC1012.out (by simp)))
  have HR112:=lh (HR1.out.fresh hset)
  have hmf:∀ (fn:Fn) (first cap:Array Value) (w:World),(Instr.makeFunc fn first cap).run Tryz.prog w=.ok (.func fn first cap) w:=fun _ _ _ _=>rfl
  clear c0 c1 c2 c3 c4 c5 q0 q1 hsz hc11 hset hheap hR1 p0 p1 n0 n1
  go_wp2
  generalize (w11.alloc (.cells #[.slice ro1 R1.length rc1] 30))=w12 at *
  generalize w11.heap.size=ab at *
  refine bodyPost_ret (v:=.tuple #[.func (.func 199) #[] #[.pointer (some ⟨ab,0,none⟩),.pointer (some ⟨ob,0,none⟩)],.bool true]) (by simp[results,Tryz.results137,go_sem]) rfl ?_
  exact⟨ab,ob,_,_,rfl,L1.out,L02.out,by rw[HB1.out,HB2.out,HRE1.out];exact HR112.out,by rw[HA1.out,HA2.out,HRE0.out];exact HR012.out,HW12.out⟩
end Go.Proofs.YtkacjmoamgjfpaaGreat
