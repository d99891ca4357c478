/- plan.Clean: its contract. Conditions: a plan that lies in memory and reads so, of a bounded size. -/
import Derived.Test.YtkacjmoamgjfpaaGreatHxRefW
namespace Go.Proofs.YtkacjmoamgjfpaaGreat
open Go.RowKit Go.Maps
theorem RowsAt.rowc {w:World} {tno:Option Addr} {n tc:Nat} {ll:List (List Int)} (h:RowsAt w (.slice tno n tc) ll) {k:Nat} (hk:k<ll.length):∃ b off u,tno=some ⟨b,off,none⟩∧w.cell? ⟨b,off+k,none⟩=some u∧CapOk u∧IntsAt w u (ll.getD k []):=by
 obtain⟨ao,cap,e,-,h2⟩:=h
 simp only[Value.slice.injEq] at e
 obtain⟨rfl,rfl,rfl⟩:=e
 obtain⟨b,off,u,rfl,h3,h4,h5⟩:=h2 k hk
 exact⟨b,off,u,rfl,h3,h4,h5⟩
namespace Plain
theorem map_take_snoc {f:List Int→List Int} {L:List (List Int)} {k:Nat} (hk:k<L.length):(L.take (k+1)).map f=(L.take k).map f++[f (L.getD k [])]:=by
 rw[List.take_succ_eq_append_getElem hk,List.map_append]
 simp[List.getD,hk]
end Plain
set_option maxRecDepth 100000 in
set_option maxHeartbeats 4000000 in
theorem clean_any (vx:Value) (turn same:List (List Int)) (w:World) (hTL:turn.length<1000000000) (hSL:same.length<1000000000) (htr:∀ i,(turn.getD i []).length<1000000000) (hsr:∀ i,(same.getD i []).length<1000000000) (hx:PlAt w vx turn same) :
  Calls Tryz.prog 74 #[vx] w fun e w'=>∃ vy,e=.returned vy∧(∀ own wx,Chg own w' wx→(∀ j∈own,j<w.heap.size)→PlAt wx vy (turn.map Plain.first) same)∧Chg [] w w':=by
 obtain⟨t1,t2,rfl,ht,hs⟩:=hx
 have HT:=lh ht
 have HS:=lh hs
 have HTR:=lh htr
 have HSR:=lh hsr
 obtain⟨tno,tc,rfl,htm,-⟩:=ht
 obtain⟨so,sc,rfl,hsm2,-⟩:=hs
 obtain⟨hb1,hb2,hc1⟩:=box_two w #[.slice tno turn.length tc,.slice so same.length sc] #[.slice none 0 0,.slice none 0 0] 32 32
 have hpv:=PlanVar.made ((w.alloc (.cells #[.slice tno turn.length tc,.slice so same.length sc] 32)).alloc (.cells #[.slice none 0 0,.slice none 0 0] 32)) (w.heap.size+3) (w.heap.size+3)
 have hc2:=(Chg.refl [] ((w.alloc (.cells #[.slice tno turn.length tc,.slice so same.length sc] 32)).alloc (.cells #[.slice none 0 0,.slice none 0 0] 32))).alloc (.cells #[.slice none 0 0,.slice none 0 0] 32)
 rw[show ((w.alloc (.cells #[.slice tno turn.length tc,.slice so same.length sc] 32)).alloc (.cells #[.slice none 0 0,.slice none 0 0] 32)).heap.size=w.heap.size+2 by simp] at hpv
 have B1:=lh (hc2.heap hb1 (by simp))
 have B2:=lh (hc2.heap hb2 (by simp))
 have HPV:=lh hpv
 have HC1:=lh (hc1.trans hc2 (by simp))
 have z0:=(cell_of_row _ _ 0 _ _ _ B1.out).trans (show _=some (Value.slice tno turn.length tc) from rfl)
 have hsz:(((w.alloc (.cells #[.slice tno turn.length tc,.slice so same.length sc] 32)).alloc (.cells #[.slice none 0 0,.slice none 0 0] 32)).alloc (.cells #[.slice none 0 0,.slice none 0 0] 32)).heap.size=w.heap.size+3:=by simp
 have HSZ:=lh hsz
 clear htr hsr hb1 hb2 hc1 hpv hc2 hsz
 go_enter Tryz.func74,Tryz.ntmps74
 go_wp2
 generalize (((w.alloc (.cells #[.slice tno turn.length tc,.slice so same.length sc] 32)).alloc (.cells #[.slice none 0 0,.slice none 0 0] 32)).alloc (.cells #[.slice none 0 0,.slice none 0 0] 32))=w1 at *
 clear z0
 go_loopw [11] (fun c wr=>∃ k:Nat,k≤turn.length∧c=.int .i64 k∧PlanVar wr (w.heap.size+2) (w.heap.size+3) wr.heap.size ((turn.take k).map Plain.first) []∧Chg [w.heap.size+2] w1 wr) (fun c _=>turn.length - (intOf c).toNat)
 case atStart=>exact⟨0,Nat.zero_le _,rfl,by simpa[HSZ.out] using HPV.out,Chg.refl _ _⟩
 case round =>
  obtain⟨k,hk,rfl,hpv,hc⟩:=hrel
  have HV:=lh hpv
  have HC:=lh hc
  have HCW:=lh (HC1.out.trans hc (fun j hj=>Or.inr (by simp at hj;omega)))
  have z0:=hc.cell ((cell_of_row _ _ 0 _ _ _ B1.out).trans (show _=some (Value.slice tno turn.length tc) from rfl)) (by simp)
  by_cases hlt:k<turn.length
  ·obtain⟨tb,toff,u,rfl,tcell,hcap,hrow⟩:=(HT.out.fresh HCW.out).rowc hlt
   obtain⟨a1,c1,a2,c2,p0,-⟩:=hpv.cells
   have HCAP:=lh hcap
   have hTl:=HTR.out k
   have HMS:=lh (Plain.map_take_snoc (f:=Plain.first) hlt)
   have hml:((turn.take k).map Plain.first).length<1000000000:=by simp;omega
   have HB:=lh (show w.heap.size+3≤wr.heap.size by have:=hc.size;have:=HSZ.out;omega)
   have HP0:=lh p0
   obtain⟨T,hT⟩:∃ T,turn.getD k []=T:=⟨_,rfl⟩
   rw[hT] at hrow hTl HMS
   have HROW:=lh hrow
   obtain⟨uo,uc,rfl,-⟩:=hrow
   obtain⟨L,hL⟩:∃ L,(turn.take k).map Plain.first=L:=⟨_,rfl⟩
   rw[hL] at HV HMS hml p0 HP0
   clear hpv hc hcap hT hL
   go_wp2
   have hS0:Chg [] wr wr.drew:=(Chg.refl [] wr).drew
   refine wp_region_way (Chg [] wr) [0,1,2] (Way.line [0,1,2,3,4,5,6,7] .done) (by kernel_rfl) (by kernel_rfl) ?_
   simp only[Way.line]
   repeat
    first
     | (refine along_off rfl (by rfl) (by rfl) (fun _ _ _ h=>h) hS0 ?_;simp only[Act.put,Z1,Z2,Z3,Z4,Z5,Z6])
     | (refine along_read (v:=?_) rfl (by rfl) (by rfl) (fun _ _ _ h=>h) hS0 (fun w' hS'=>?_) ?_;rotate_left;(focus (have rd0:=hS'.cell p0 (by simp);have rd1:=hS'.cell tcell (by simp);clear hS';go_simp;try with_reducible rfl));simp only[Act.put,Z1,Z2,Z3,Z4,Z5,Z6])
     | (refine along_skip rfl (by rfl) (by rfl) hS0 ?_;simp only[Act.put,Z1,Z2,Z3,Z4,Z5,Z6])
   refine along_op rfl (by rfl) (by rfl) (fun K hK=>?_)
   go_simp
   refine (first_any _ T _ (by omega) HCAP.out (HROW.out.fresh hS0)).mono ?_
   rintro e w3 ⟨v',rfl,hrv,hcx⟩
   have hS1:=hS0.trans hcx (by simp)
   clear hS0 hcx
   have hS0:=hS1
   clear hS1
   refine hK.out _ _ (fun _=>hS0) ?_
   clear hK K
   try simp only[Act.put,Z1,Z2,Z3,Z4,Z5,Z6]
   obtain⟨vo,vc,rfl⟩:=hrv.shape
   have HRV:=lh hrv
   have HS3:=lh hS0
   refine along_op rfl (by rfl) (by rfl) (fun K hK=>?_)
   go_simp
   refine hK.out _ _ (fun _=>hS0.alloc _) ?_
   clear hK K hrv
   try simp only[Act.put,Z1,Z2,Z3,Z4,Z5,Z6]
   obtain⟨g5,q5,w5,hr5,hf5,⟨u5,hu5⟩,hv5,own5,hc5,ho5⟩:=(HV.out.fresh HS3.out).push0 (by have:=HS3.out.size;have:=HB.out;omega) HRV.out HB.out hml (Or.inl rfl) (HS3.out.cell HP0.out (by simp)) 30
   have HV5:=lh hv5
   have HC5:=lh hc5
   have HO5:=lh ho5
   clear hv5 hc5 ho5
   refine along_op rfl (by rfl) (by rfl) (fun K hK=>?_)
   simp only[List.getElem_toArray,List.getElem_cons_zero,List.getElem_cons_succ]
   refine wp_apprun (.tmp 16) (.tmp 19) 30 rfl rfl rfl hr5 ?_
   refine hK.out _ _ (fun h=>absurd h (Bool.eq_false_iff.1 (by kernel_rfl))) ?_
   clear hK K hr5
   try simp only[Act.put,List.setIfInBounds_toArray,List.set_cons_zero,List.set_cons_succ]
   refine along_op rfl (by rfl) (by rfl) (fun K hK=>?_)
   go_simp
   refine hK.out _ _ (fun h=>absurd h (Bool.eq_false_iff.1 (by kernel_rfl))) ?_
   clear hK K
   try simp only[Act.put,Z1,Z2,Z3,Z4,Z5,Z6]
   refine along_op rfl (by rfl) (by rfl) (fun K hK=>?_)
   go_simp
   refine hK.out _ _ (fun h=>absurd h (Bool.eq_false_iff.1 (by kernel_rfl))) ?_
   clear hK K hu5 hf5 p0 tcell hS0
   try simp only[Act.put,Z1,Z2,Z3,Z4,Z5,Z6]
   refine along_done ?_
   generalize (w5.setCell ⟨w.heap.size+2,0,none⟩ (.slice (some ⟨g5,0,none⟩) (L.length+1) q5))=w6 at *
   have HC6:=lh (show Chg [w.heap.size+2] w1 w6 from HC.out.trans ((HS3.out.mono (by simp)).trans HC5.out (fun j hj=>Or.inl hj):Chg own5 wr w6) (fun j hj=>(HO5.out j hj).imp (fun e=>by simp[e]) (fun h=>by have:=HSZ.out;omega)))
   go_wp2
   go_roundw
   case rel=>exact⟨k+1,by omega,by go_num,by rw[HMS.out];exact HV5.out.up (Nat.le_refl _),HC6.out⟩
   case measure=>simp[intOf];omega
  have e:k=turn.length:=by omega
  subst e
  rw[List.take_length] at HV
  have z1:=hc.cell ((cell_of_row _ _ 1 _ _ _ B1.out).trans (show _=some (Value.slice so same.length sc) from rfl)) (by simp)
  clear hpv z0
  go_wp2
  clear z1
  obtain⟨TT,hTT⟩:∃ TT,turn.map Plain.first=TT:=⟨_,rfl⟩
  have HTT:=lh hTT
  rw[hTT] at HV
  clear hTT
  rename World=>wo
  go_loopw [26] (fun c wr=>∃ k:Nat,k≤same.length∧c=.int .i64 k∧PlanVar wr (w.heap.size+2) (w.heap.size+3) wr.heap.size TT (same.take k)∧Chg [w.heap.size+2] w1 wr) (fun c _=>same.length - (intOf c).toNat)
  case atStart=>exact⟨0,Nat.zero_le _,rfl,by simpa using HV.out,HC.out⟩
  case round =>
   clear HV HC HCW hc
   obtain⟨k,hk,rfl,hpv,hc⟩:=hrel
   have HV:=lh hpv
   have HC:=lh hc
   have HCW:=lh (HC1.out.trans hc (fun j hj=>Or.inr (by simp at hj;omega)))
   by_cases hlt:k<same.length
   ·obtain⟨tb,toff,u,rfl,tcell,-,hrow⟩:=(HS.out.fresh HCW.out).rowc hlt
    obtain⟨a1,c1,a2,c2,-,p1⟩:=hpv.cells
    have hTl:=HSR.out k
    have HMS:=lh (show same.take (k+1)=same.take k++[same.getD k []] by rw[List.take_succ_eq_append_getElem hlt];simp[List.getD,hlt])
    have hml:(same.take k).length<1000000000:=by simp;omega
    have HB:=lh (show w.heap.size+3≤wr.heap.size by have:=hc.size;have:=HSZ.out;omega)
    have HP0:=lh p1
    obtain⟨T,hT⟩:∃ T,same.getD k []=T:=⟨_,rfl⟩
    rw[hT] at hrow hTl HMS
    have HROW:=lh hrow
    obtain⟨uo,uc,rfl,-⟩:=hrow
    obtain⟨L,hL⟩:∃ L,same.take k=L:=⟨_,rfl⟩
    rw[hL] at HV HMS hml p1 HP0
    clear hpv hc hT hL
    go_wp2
    have hS0:Chg [] wr wr.drew:=(Chg.refl [] wr).drew
    refine wp_region_way (Chg [] wr) [0,1,2] (Way.line [0,1,2,3,4,5,6,7] .done) (by kernel_rfl) (by kernel_rfl) ?_
    simp only[Way.line]
    repeat
     first
      | (refine along_off rfl (by rfl) (by rfl) (fun _ _ _ h=>h) hS0 ?_;simp only[Act.put,Z1,Z2,Z3,Z4,Z5,Z6])
      | (refine along_read (v:=?_) rfl (by rfl) (by rfl) (fun _ _ _ h=>h) hS0 (fun w' hS'=>?_) ?_;rotate_left;(focus (have rd0:=hS'.cell p1 (by simp);have rd1:=hS'.cell tcell (by simp);clear hS';go_simp;try with_reducible rfl));simp only[Act.put,Z1,Z2,Z3,Z4,Z5,Z6])
      | (refine along_skip rfl (by rfl) (by rfl) hS0 ?_;simp only[Act.put,Z1,Z2,Z3,Z4,Z5,Z6])
    refine along_op rfl (by rfl) (by rfl) (fun K hK=>?_)
    go_simp
    refine (clone_any _ T _ (by omega) (HROW.out.fresh hS0)).mono ?_
    rintro e w3 ⟨v',rfl,hrv,hcx⟩
    have hS1:=hS0.trans hcx (by simp)
    clear hS0 hcx
    have hS0:=hS1
    clear hS1
    refine hK.out _ _ (fun _=>hS0) ?_
    clear hK K
    try simp only[Act.put,Z1,Z2,Z3,Z4,Z5,Z6]
    obtain⟨vo,vc,rfl⟩:=hrv.shape
    have HRV:=lh hrv
    have HS3:=lh hS0
    refine along_op rfl (by rfl) (by rfl) (fun K hK=>?_)
    go_simp
    refine hK.out _ _ (fun _=>hS0.alloc _) ?_
    clear hK K hrv
    try simp only[Act.put,Z1,Z2,Z3,Z4,Z5,Z6]
    obtain⟨g5,q5,w5,hr5,hf5,⟨u5,hu5⟩,hv5,own5,hc5,ho5⟩:=(HV.out.fresh HS3.out).push1 (by have:=HS3.out.size;have:=HB.out;omega) HRV.out HB.out hml (Or.inl rfl) (HS3.out.cell HP0.out (by simp)) 30
    have HV5:=lh hv5
    have HC5:=lh hc5
    have HO5:=lh ho5
    clear hv5 hc5 ho5
    refine along_op rfl (by rfl) (by rfl) (fun K hK=>?_)
    simp only[List.getElem_toArray,List.getElem_cons_zero,List.getElem_cons_succ]
    refine wp_apprun (.tmp 31) (.tmp 34) 30 rfl rfl rfl hr5 ?_
    refine hK.out _ _ (fun h=>absurd h (Bool.eq_false_iff.1 (by kernel_rfl))) ?_
    clear hK K hr5
    try simp only[Act.put,List.setIfInBounds_toArray,List.set_cons_zero,List.set_cons_succ]
    refine along_op rfl (by rfl) (by rfl) (fun K hK=>?_)
    go_simp
    refine hK.out _ _ (fun h=>absurd h (Bool.eq_false_iff.1 (by kernel_rfl))) ?_
    clear hK K
    try simp only[Act.put,Z1,Z2,Z3,Z4,Z5,Z6]
    refine along_op rfl (by rfl) (by rfl) (fun K hK=>?_)
    go_simp
    refine hK.out _ _ (fun h=>absurd h (Bool.eq_false_iff.1 (by kernel_rfl))) ?_
    clear hK K hu5 hf5 p1 tcell hS0
    try simp only[Act.put,Z1,Z2,Z3,Z4,Z5,Z6]
    refine along_done ?_
    generalize (w5.setCell ⟨w.heap.size+2,1,none⟩ (.slice (some ⟨g5,0,none⟩) (L.length+1) q5))=w6 at *
    have HC6:=lh (show Chg [w.heap.size+2] w1 w6 from HC.out.trans ((HS3.out.mono (by simp)).trans HC5.out (fun j hj=>Or.inl hj):Chg own5 wr w6) (fun j hj=>(HO5.out j hj).imp (fun e=>by simp[e]) (fun h=>by have:=HSZ.out;omega)))
    go_wp2
    go_roundw
    case rel=>exact⟨k+1,by omega,by go_num,by rw[HMS.out];exact HV5.out.up (Nat.le_refl _),HC6.out⟩
    case measure=>simp[intOf];omega
   have e:k=same.length:=by omega
   subst e
   rw[List.take_length] at HV
   obtain⟨a1,c1,a2,c2,p0,p1⟩:=HV.out.cells
   have P0:=lh p0
   have P1:=lh p1
   have b2:=HC.out.heap B2.out (by simp)
   have HB2:=lh b2
   have r0:=(cell_of_row _ _ 0 _ _ _ b2).trans (show _=some (Value.slice none 0 0) from rfl)
   have r1:=(cell_of_row _ _ 1 _ _ _ b2).trans (show _=some (Value.slice none 0 0) from rfl)
   have f0:=free_at b2 0
   have f1:=free_at b2 1
   have hset:Chg [w.heap.size+1] wr ((wr.setCell ⟨w.heap.size+1,0,none⟩ (.slice a1 TT.length c1)).setCell ⟨w.heap.size+1,1,none⟩ (.slice a2 same.length c2)):=((Chg.refl _ wr).setCell (Or.inl (by simp)) _).setCell (Or.inl (by simp)) _
   have hheap:=heap_setCell_same (heap_setCell_same b2 0 (.slice a1 TT.length c1)) 1 (.slice a2 same.length c2)
   have HF0:=lh ((cell_of_row _ _ 0 _ _ _ hheap).trans (show _=some (Value.slice a1 TT.length c1) from rfl))
   have HF1:=lh ((cell_of_row _ _ 1 _ _ _ hheap).trans (show _=some (Value.slice a2 same.length c2) from rfl))
   have hkeep:=HV.out.keep hset (fun j hj=>by
    have e:j=w.heap.size+1:=by simpa using hj
    subst e
    refine⟨by omega,fun cs u r hh=>?_⟩
    rw[b2] at hh
    simp at hh
    obtain⟨-,rfl,-⟩:=hh
    exact⟨by decide,by decide⟩)
   have e0:=hset.cell p0 (by simp)
   have e1:=hset.cell p1 (by simp)
   have HPL:=lh (fun own wx (hcx:Chg own _ wx) (hlow:∀ j∈own,j<w.heap.size)=>(hkeep.low hcx (fun j hj=>by have:=hlow j hj;omega)).readAt (hcx.cell e0 (fun hm=>by have:w.heap.size+2<w.heap.size:=hlow _ hm;omega)) (hcx.cell e1 (fun hm=>by have:w.heap.size+2<w.heap.size:=hlow _ hm;omega)))
   have HCF:=lh (HCW.out.trans hset (fun j hj=>Or.inr (by simp at hj;omega)))
   clear hpv hc b2 hset hheap hkeep e0 e1
   go_wp2
   refine bodyPost_ret (v:=.agg #[.slice a1 TT.length c1,.slice a2 same.length c2]) (by have h0:=HF0.out;have h1:=HF1.out;simp[results,Tryz.results74,go_sem,h0,h1]) rfl ?_
   exact⟨_,rfl,fun own wx h1 h2=>by rw[HTT.out];exact HPL.out own wx h1 h2,HCF.out⟩
end Go.Proofs.YtkacjmoamgjfpaaGreat
