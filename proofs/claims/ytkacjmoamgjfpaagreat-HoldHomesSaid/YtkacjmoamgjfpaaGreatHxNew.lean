/- package rota: the contract of New. Conditions: lists that lie in memory and read so, of a bounded size. -/
import Derived.Test.YtkacjmoamgjfpaaGreatHxSetsD
namespace Go.Proofs.YtkacjmoamgjfpaaGreat
open Go.RowKit Go.Maps
section
variable (w : World) {ops : Array Oper} {rest : List Oper} {o : Oper} {a : Act} {Q : Exit → Act → World → Prop}
theorem wp_look_any (hg:o.guard=none) (m x:Operand) (hop:o.op=Op.lookup 93 m x true) {b n:Nat} {f:Int→Option Int} (h:IMap w b n f) (hm:a.eval m=.map (some b))
  {k:Int} (hk:I64 k) (hx:a.eval x=.int .i64 k) {v:Int} {t:Bool} (hv:Hid ((f k).getD 0=v)) (ht:Hid ((f k).isSome=t)) (hK:wpList Tryz.prog ops Q rest (a.put o.dst (.tuple #[.int .i64 v,.bool t])) w):wpList Tryz.prog ops Q (o :: rest) a w:=by
 cases hf:f k with
 | none =>
  have h1:=hv.out;have h2:=ht.out
  rw[hf] at h1 h2
  simp at h1 h2
  subst h1;subst h2
  exact wp_look_miss w hg m x hop h hm hk hx (lh hf) hK
 | some u =>
  have h1:=hv.out;have h2:=ht.out
  rw[hf] at h1 h2
  simp at h1 h2
  subst h1;subst h2
  exact wp_look_hit w hg m x hop h hm hk hx (lh hf) hK
end
theorem IMap.cell_ne {w:World} {b n:Nat} {f:Int→Option Int} (h:IMap w b n f) {c o:Nat} {v:Value} (hc:w.cell? ⟨c,o,none⟩=some v):c≠b:=by
 obtain⟨D,⟨es,clock,he,_⟩,_⟩:=h
 intro e
 subst e
 simp[World.cell?,he] at hc
theorem lit_two (w:World) {x y:Int} (hx:I64 x) (hy:I64 y):IntsAt (w.alloc (.cells #[.int .i64 x,.int .i64 y] 3)) (.slice (some ⟨w.heap.size,0,none⟩) 2 2) [x,y]:=by
 refine⟨_,2,rfl,by simp[hx,hy],by simp,fun _=>⟨w.heap.size,0,rfl,fun i hi=>?_⟩⟩
 simp at hi
 rw[cell_of_row _ _ _ _ _ _ (heap_alloc_new w _)]
 rcases i with _ | _ | i
 ·rfl
 ·rfl
 omega
theorem Plain.sumLen_flat (T:List (List Int)):∀ k,k≤T.length→Plain.sumLen T k=(T.take k).flatten.length
 | 0,_=>by simp[Plain.sumLen]
 | k+1,h=>by
  unfold Plain.sumLen
  rw[Plain.sumLen_flat T k (by omega),List.take_succ_eq_append_getElem (by omega),List.flatten_append,List.length_append]
  simp[List.getD,show k<T.length by omega]
theorem Plain.seen_len {T:List (List Int)} {k j:Nat} (hk:k<T.length) (hj:j≤(T.getD k []).length):(Plain.seen T k j).length≤Plain.sumLen T T.length:=by
 have h1:Plain.sumLen T (k+1)=Plain.sumLen T k+(T.getD k []).length:=rfl
 have h2:=Plain.sumLen_mono T (show k+1≤T.length from hk)
 unfold Plain.seen
 rw[List.length_append,←Plain.sumLen_flat T k (by omega),List.length_take]
 omega
set_option maxRecDepth 100000 in
set_option maxHeartbeats 4000000 in
theorem rotaNew_any (vg vp vt:Value) (g:Plain.Gr) (p:Plain.Pt) (turn:List (List Int)) (w:World) (hpl:p.e.length≤1000000) (hpv:p.v.length≤1000000) (hTL:turn.length<2147483648) (hS:Plain.sumLen turn turn.length<2147483648) (hg:GrAt w vg g) (hp:PtAt w vp p) (ht:RowsAt w vt turn) :
  Calls Tryz.prog 139 #[vg,vp,vt] w fun e w'=>∃ r,e=.returned (.tuple #[r,.int .i64 (Plain.turnErr g p turn)])∧(Plain.turnErr g p turn≠0→r=.pointer none) ∧
   (Plain.turnErr g p turn=0→∃ rb vt' vd lb pb n m,r=.pointer (some ⟨rb,0,none⟩)∧w.heap.size≤rb∧RotaAt w' rb (turn.map Plain.first) (fun d=>if d∈p.darts then some (g.tail d) else none) (Plain.places turn turn.length) p.darts vt' vd lb pb n m)∧Chg [] w w':=by
 have HG:=lh hg
 have HP:=lh hp
 have HT:=lh ht
 have HSL:=lh hS
 obtain⟨eo,cap,rfl,hn,hm,hsm,hcell⟩:=hg
 obtain⟨v1,v2,rfl,hv,he⟩:=hp
 obtain⟨ao,ac,rfl,-,-,-⟩:=hv
 obtain⟨bo,bc,rfl,hbs,hbm,hbcell⟩:=he
 obtain⟨tto,tc,rfl,htl,htc⟩:=ht
 have HCE:=lh hcell
 have HBC:=lh hbcell
 have HSM:=lh hsm
 have HTC:=lh htc
 obtain⟨hb1,hb2,hc1⟩:=box_two w #[.int .i64 g.n,.slice eo g.e.length cap] #[.slice ao p.v.length ac,.slice bo p.e.length bc] 24 29
 have X0:=lh ((cell_of_row _ _ 0 _ _ _ hb1).trans (show _=some (Value.int .i64 g.n) from rfl))
 have X1:=lh ((cell_of_row _ _ 1 _ _ _ hb1).trans (show _=some (Value.slice eo g.e.length cap) from rfl))
 have Y1:=lh ((cell_of_row _ _ 1 _ _ _ hb2).trans (show _=some (Value.slice bo p.e.length bc) from rfl))
 have HC1:=lh hc1
 clear hcell hbcell hsm hbs hn hb1 hb2 hc1 htc hS
 go_enter Tryz.func139,Tryz.ntmps139
 go_wp2_with fail
 refine (rightPart_any _ _ g p _ (by omega) (HG.out.fresh HC1.out) (HP.out.fresh HC1.out)).mono ?_
 rintro e w2 ⟨rfl,hc2⟩
 have HC2:=lh (HC1.out.trans hc2 (by simp))
 have x0:=hc2.cell X0.out (by simp)
 have y1:=hc2.cell Y1.out (by simp)
 have X12:=lh (hc2.cell X1.out (by simp))
 have hmm:=fun n w=>run_makeMap_hint Tryz.underlying93 n w
 have HSZ2:=lh (show w.heap.size+2≤w2.heap.size by have:=hc2.size;simpa using this)
 clear hc2
 by_cases hr:p.err g=0
 ·have HR:=lh hr
  rw[hr]
  by_cases hl:(turn.length:Int)=g.n
  ·have HL:=lh hl
   rw[←hl] at x0
   have HEL:=lh (Plain.Gr.err_ok (Plain.Pt.err_ok hr).1).2.2.1
   have HGN:=lh (Plain.Gr.err_ok (Plain.Pt.err_ok hr).1).2.1
   have HRE:=lh (Plain.Pt.err_ok hr).2.2.1
   clear hr hl
   have y1n:=fun o=>cellNew y1 o
   go_wp2_with (at_make;refine wl_make0 rfl _ _ rfl (B:=w2.heap.size) (n:=2*p.e.length) rfl (by go_num) (by simp) (by omega) ?_;intro dv w3 r3 c3 f3;have R3:=lh r3;have C3:=lh c3;have y3:=c3.cell (cellNew y1 (.map #[] 0)) (by simp);clear r3 c3 f3 y1n)
   clear y1 x0 y3 hmm
   have NM:=lh ((show NMap (w2.alloc (.map #[] 0)) w2.heap.size 0 (fun _=>none) from NMap.made w2).chg C3.out (by simp))
   have HC3:=lh (HC2.out.trans (((Chg.refl [] w2).alloc (.map #[] 0)).trans C3.out (by simp)) (by simp))
   have HW3:=lh (show w2.heap.size+1≤w3.heap.size by have:=C3.out.size;simpa using this)
   have X13:=lh (C3.out.cell (((Chg.refl [] w2).alloc (.map #[] 0)).cell X12.out (by simp)) (by simp))
   obtain⟨lb,hlb⟩:∃ lb,w2.heap.size=lb:=⟨_,rfl⟩
   rw[hlb] at R3 NM HW3 ⊢
   have HLB:=lh (show w.heap.size+2≤lb by rw[←hlb];exact HSZ2.out)
   clear hlb
   go_loopw [10,46] (fun d c wr=>∃ k:Nat,k≤p.e.length∧c=.int .i64 k∧NMap wr lb (2*k) (Plain.leavesOf g p k)∧RowAt wr lb d (Plain.Pt.darts ⟨[],p.e.take k⟩)∧Chg [] w wr∧Hid (wr.cell? ⟨w.heap.size,1,none⟩=some (.slice eo g.e.length cap))) (fun _ c _=>p.e.length - (intOf c).toNat)
   case atStart=>exact⟨0,Nat.zero_le _,rfl,by rw[Plain.leavesOf_zero];exact NM.out,by simpa[Plain.Pt.darts] using R3.out,HC3.out,X13⟩
   case round =>
    obtain⟨k,hk,rfl,hnm,hrow,hc,hx1⟩:=hrel
    have HNM:=lh hnm
    have HROW:=lh hrow
    have HC:=lh hc
    obtain⟨dvo,dvc,rfl⟩:=hrow.shape
    have HDL:=lh (show (Plain.Pt.darts ⟨[],p.e.take k⟩).length=2*k by rw[Plain.darts_length];simp only[List.length_take];omega)
    by_cases hlt:k<p.e.length
    ·obtain⟨bb,boff,rfl,hbc⟩:=HBC.out (by intro e;rw[e] at hlt;simp at hlt)
     have ce:=hc.cell (hbc k hlt) (by simp)
     have hre:=Plain.rises_at HRE.out hlt
     obtain⟨ei,hei⟩:∃ ei:Nat,p.e.getD k 0=(ei:Int):=⟨(p.e.getD k 0).toNat,by omega⟩
     have HLV:=lh (Plain.leavesOf_next (g:=g) hlt hei)
     have HDK:=lh (Plain.darts_take (p:=p) hlt)
     rw[hei] at HDK
     have hp2:=Plain.rises_pair HRE.out
     have HN0:=lh (Plain.leavesOf_new (g:=g) hp2 hlt (d:=2*(ei:Int)) (by rw[hei];omega))
     have HN1:=lh (Plain.leavesOf_new (g:=g) hp2 hlt (d:=2*(ei:Int)+1) (by rw[hei];omega))
     rw[hei] at ce hre
     have hei2:ei<g.e.length:=by omega
     have hei3:(ei:Int)≤1024:=by have:=HEL.out;have:=HGN.out;have:=HL.out;omega
     obtain⟨eb,eoff,rfl,hc0,hc1⟩:=HCE.out ei hei2
     obtain⟨z1,z2⟩:=HSM.out ei hei2
     have C0:=lh (hc.cell hc0 (by simp))
     have C1:=lh (hc.cell hc1 (by simp))
     clear hbc hc hre hei hc0 hc1 hnm hrow hp2
     generalize Plain.Pt.darts ⟨[],p.e.take k⟩=D at *
     generalize (g.ends ei).1=x at *
     generalize (g.ends ei).2=y at *
     go_wp2
     clear ce
     have I1:I64 (2*(ei:Int)):=I64.mk (by omega) (by omega)
     have I2:I64 (2*(ei:Int)+1):=I64.mk (by omega) (by omega)
     have hwr1:=IntWalk.i64_in (2*(ei:Int)) (by omega)
     have hwr2:=IntWalk.i64_in (2*(ei:Int)+1) (by omega)
     have N0:NMap wr.drew lb (2*k) (Plain.leavesOf g p k):=HNM.out.chg (Chg.refl [] wr).drew (by simp)
     obtain⟨st,wa,wb,hr1,hca,hr2,N1,hcb⟩:=N0.entry (by unfold maxLen;omega) I1 z1 HN0.out
     obtain⟨st',wc,we,hr3,hcc,hr4,N2,hcd⟩:=N1.entry (by unfold maxLen;omega) I2 z2 (by show (if _ then _ else _)=_;rw[if_neg (by omega)];exact HN1.out)
     have hne:∀ {b o:Nat} {v:Value},wr.cell? ⟨b,o,none⟩=some v→b≠lb:=fun h=>HNM.out.imap.cell_ne h
     have hS0:(fun w':World=>w'.cell? ⟨w.heap.size,1,none⟩=some (.slice (some ⟨eb,eoff,none⟩) g.e.length cap)∧w'.cell? ⟨eb,eoff+ei*2,none⟩=some (.int .i64 x)∧w'.cell? ⟨eb,eoff+ei*2+1,none⟩=some (.int .i64 y)) wr.drew:=⟨hx1.out,C0.out,C1.out⟩
     have hS1:(fun w':World=>w'.cell? ⟨w.heap.size,1,none⟩=some (.slice (some ⟨eb,eoff,none⟩) g.e.length cap)∧w'.cell? ⟨eb,eoff+ei*2,none⟩=some (.int .i64 x)∧w'.cell? ⟨eb,eoff+ei*2+1,none⟩=some (.int .i64 y)) wa:=⟨hca.cell hS0.1 (by simpa using hne hx1.out),hca.cell hS0.2.1 (by simpa using hne C0.out),hca.cell hS0.2.2 (by simpa using hne C1.out)⟩
     have hS2:(fun w':World=>w'.cell? ⟨w.heap.size,1,none⟩=some (.slice (some ⟨eb,eoff,none⟩) g.e.length cap)∧w'.cell? ⟨eb,eoff+ei*2,none⟩=some (.int .i64 x)∧w'.cell? ⟨eb,eoff+ei*2+1,none⟩=some (.int .i64 y)) wb:=⟨hcb.cell hS0.1 (by simpa using hne hx1.out),hcb.cell hS0.2.1 (by simpa using hne C0.out),hcb.cell hS0.2.2 (by simpa using hne C1.out)⟩
     have hS3:(fun w':World=>w'.cell? ⟨w.heap.size,1,none⟩=some (.slice (some ⟨eb,eoff,none⟩) g.e.length cap)∧w'.cell? ⟨eb,eoff+ei*2,none⟩=some (.int .i64 x)∧w'.cell? ⟨eb,eoff+ei*2+1,none⟩=some (.int .i64 y)) wc:=⟨hcc.cell hS2.1 (by simpa using hne hx1.out),hcc.cell hS2.2.1 (by simpa using hne C0.out),hcc.cell hS2.2.2 (by simpa using hne C1.out)⟩
     have HN2:=lh N2
     have HCD:=lh (((Chg.refl [lb] wr).drew.trans hcb (by simp)).trans hcd (by simp))
     have HX1E:=lh (hcd.cell hS2.1 (by simpa using hne hx1.out))
     clear N0 N1 N2 hca hcb hcc hcd hne
     refine wp_region_way (fun w':World=>w'.cell? ⟨w.heap.size,1,none⟩=some (.slice (some ⟨eb,eoff,none⟩) g.e.length cap)∧w'.cell? ⟨eb,eoff+ei*2,none⟩=some (.int .i64 x)∧w'.cell? ⟨eb,eoff+ei*2+1,none⟩=some (.int .i64 y)) [0,1,2,3,4,5,6,7,8,9,10,11,12,13,14,15,16,17,18,20,23] (Way.line [0,1,2,3,4,5,6,7,8,9,10,11,12,13,14,15,16,17,18,19,20,21,22,23,24] .done) (by kernel_rfl) (by kernel_rfl) ?_
     simp only[Way.line]
     repeat
      first
       | (refine along_off rfl (by rfl) (by rfl) (fun _ _ _ h=>h) hS0 ?_;simp only[Act.put,Z1,Z2,Z3,Z4,Z5,Z6])
       | (refine along_read (v:=?_) rfl (by rfl) (by rfl) (fun _ _ _ h=>h) hS0 (fun w' hS'=>?_) ?_;rotate_left;(focus ((try dsimp only at hS');go_simp;try with_reducible rfl));simp only[Act.put,Z1,Z2,Z3,Z4,Z5,Z6])
       | (refine along_skip rfl (by rfl) (by rfl) hS0 ?_;simp only[Act.put,Z1,Z2,Z3,Z4,Z5,Z6])
     refine along_op rfl (by rfl) (by rfl) (fun K hK=>?_)
     simp only[List.getElem_toArray,List.getElem_cons_zero,List.getElem_cons_succ]
     refine wp_entry _ _ _ rfl hr1 rfl rfl ?_
     refine hK.out _ _ (fun _=>hS1) ?_
     clear hK K hS0 hr1
     try simp only[Act.put,List.setIfInBounds_toArray,List.set_cons_zero,List.set_cons_succ]
     repeat
      first
       | (refine along_off rfl (by rfl) (by rfl) (fun _ _ _ h=>h) hS1 ?_;simp only[Act.put,Z1,Z2,Z3,Z4,Z5,Z6])
       | (refine along_read (v:=?_) rfl (by rfl) (by rfl) (fun _ _ _ h=>h) hS1 (fun w' hS'=>?_) ?_;rotate_left;(focus ((try dsimp only at hS');go_simp;try with_reducible rfl));simp only[Act.put,Z1,Z2,Z3,Z4,Z5,Z6])
       | (refine along_skip rfl (by rfl) (by rfl) hS1 ?_;simp only[Act.put,Z1,Z2,Z3,Z4,Z5,Z6])
     refine along_op rfl (by rfl) (by rfl) (fun K hK=>?_)
     simp only[List.getElem_toArray,List.getElem_cons_zero,List.getElem_cons_succ]
     refine wp_estore _ _ _ _ rfl hr2 rfl rfl rfl ?_
     refine hK.out _ _ (fun _=>hS2) ?_
     clear hK K hS1 hr2
     try simp only[Act.put]
     refine along_op rfl (by rfl) (by rfl) (fun K hK=>?_)
     simp only[List.getElem_toArray,List.getElem_cons_zero,List.getElem_cons_succ]
     refine wp_entry _ _ _ rfl hr3 rfl rfl ?_
     refine hK.out _ _ (fun _=>hS3) ?_
     clear hK K hS2 hr3
     try simp only[Act.put,List.setIfInBounds_toArray,List.set_cons_zero,List.set_cons_succ]
     repeat
      first
       | (refine along_off rfl (by rfl) (by rfl) (fun _ _ _ h=>h) hS3 ?_;simp only[Act.put,Z1,Z2,Z3,Z4,Z5,Z6])
       | (refine along_read (v:=?_) rfl (by rfl) (by rfl) (fun _ _ _ h=>h) hS3 (fun w' hS'=>?_) ?_;rotate_left;(focus ((try dsimp only at hS');go_simp;try with_reducible rfl));simp only[Act.put,Z1,Z2,Z3,Z4,Z5,Z6])
       | (refine along_skip rfl (by rfl) (by rfl) hS3 ?_;simp only[Act.put,Z1,Z2,Z3,Z4,Z5,Z6])
     refine along_op rfl (by rfl) (by rfl) (fun K hK=>?_)
     simp only[List.getElem_toArray,List.getElem_cons_zero,List.getElem_cons_succ]
     refine wp_estore _ _ _ _ rfl hr4 rfl rfl rfl ?_
     refine hK.out _ _ (fun h=>absurd h (Bool.eq_false_iff.1 (by kernel_rfl))) ?_
     clear hK K hS3 hr4
     try simp only[Act.put]
     refine along_done ?_
     clear hwr1 hwr2
     have HCE':=lh (HC.out.trans HCD.out (fun j hj=>Or.inr (by have:=HLB.out;simp at hj;omega)))
     have HLT:=lh (HN2.out.imap.lt)
     have hdl:(D).length+2<4294967296:=by have:=HDL.out;omega
     have HROWE:=lh (HROW.out.chg HCD.out (fun b hb e=>by obtain⟨cs,r,hh⟩:=row_kind HROW.out b (by rw[HROW.out.foot];exact hb);exact HNM.out.imap.ne hh (by simpa using e)))
     have HRK:=lh (fun b (hb:b∈foot (.slice dvo (D).length dvc))=>row_kind HROWE.out b hb)
     have HNX:Hid (w.heap.size ∉ foot (.slice dvo (D).length dvc)):=lh (fun e=>by have:=(HROW.out.low _ (by rw[←HROW.out.foot];exact e)).1;have:=HLB.out;omega)
     have HKK:=lh hlt
     clear hlt hei2
     go_wp2_with (at_builtin;refine wl_app_read rfl (.tmp 73) (.tmp 79) rfl (B:=lb) (v:=.slice dvo (D).length dvc) rfl rfl (HROWE.out.chg ((Chg.refl [] _).alloc _) (by simp)) (lit_two _ I1 I2) (by have:=HLT.out;simp;omega) hdl ?_;intro v5 w5 r5 c5 f5;have R5:=lh r5;have C5:=lh c5;clear r5 c5 f5)
     go_roundw
     case rel =>
      have hcc:Chg (foot (.slice dvo D.length dvc)) we w5:=((Chg.refl _ we).alloc _).trans C5.out (fun j hj=>Or.inl hj)
      exact⟨k+1,by have:=HKK.out;omega,by go_num,by rw[HLV.out];exact HN2.out.chg hcc (fun e=>by obtain⟨cs,r,hh⟩:=HRK.out lb e;exact HN2.out.imap.ne hh rfl),by rw[HDK.out];exact R5.out,HCE'.out.trans hcc (fun j hj=>Or.inr (by have:=(HROWE.out.low j (by rw[←HROWE.out.foot];exact hj)).1;have:=HLB.out;omega)),lh (hcc.cell HX1E.out HNX.out)⟩
     case measure=>have:=HKK.out;simp[intOf];omega
    have e:k=p.e.length:=by omega
    subst e
    generalize wr=wz at *
    rw[List.take_length] at HROW HDL hrow ⊢
    have HROWP:=lh (show RowAt wz lb (.slice dvo p.darts.length dvc) p.darts from HROW.out)
    have hmm:=fun n w=>run_makeMap_hint Tryz.underlying93 n w
    have hln:=HNM.out.len
    have hdd:Plain.Pt.darts ⟨[],p.e⟩=p.darts:=rfl
    rw[hdd] at HDL ⊢
    have hDL:p.darts.length≤2000000:=by have:=HDL.out;omega
    clear hnm hrow HROW hc hdd
    go_wp2
    clear hmm hln hlt
    have PM:=lh (NMap.made wz)
    have HCM:=lh ((Chg.refl [] wz).alloc (.map #[] 0))
    obtain⟨pb,hpb⟩:∃ pb,wz.heap.size=pb:=⟨_,rfl⟩
    rw[hpb] at PM ⊢
    have HPB:=lh hpb
    generalize (wz.alloc (.map #[] 0))=wm at *
    clear hpb
    go_loopw [87] (fun c wq=>∃ k:Nat,k≤turn.length∧c=.int .i64 k∧∃ f,NMap wq pb (Plain.seen turn k 0).length f∧Hid (∀ y,f y≠none↔y∈Plain.seen turn k 0)∧Hid (Plain.Good g p turn k 0)∧Chg [] wz wq) (fun c _=>turn.length - (intOf c).toNat)
    case atStart=>exact⟨0,Nat.zero_le _,rfl,_,by rw[Plain.seen_zero];exact PM.out,lh (fun y=>by rw[Plain.seen_zero];simp),lh (Plain.Good.start g p turn),HCM.out⟩
    case round =>
     obtain⟨k,hk2,rfl,f,hpm,hf,hgood,hcq⟩:=hrel
     by_cases hlt:k<turn.length
     ·obtain⟨tb,toff,u,rfl,hu,-,hints⟩:=HTC.out k hlt
      have HTK:=lh hlt
      have HGR:=lh (fun (h:Plain.Good g p turn k (turn.getD k []).length)=>h.row hlt)
      have HSR:=lh (Plain.seen_row hlt)
      have HSEEN:=lh (fun j hj=>Plain.seen_len (T:=turn) (k:=k) (j:=j) hlt hj)
      obtain⟨l,hlk⟩:∃ l,turn.getD k []=l:=⟨_,rfl⟩
      have HLK:=lh hlk
      rw[hlk] at hints HGR HSR HSEEN
      obtain⟨uo,uc,rfl,hsmu,hul,huc⟩:=hints
      have HUC:=lh huc
      have HUS:=lh hsmu
      have HPM:=lh hpm
      have HCQ:=lh hcq
      have ck:=HCQ.out.cell (HC.out.cell hu (by simp)) (by simp)
      have hll:l.length<2147483648:=by
       have h1:Plain.sumLen turn (k+1)=Plain.sumLen turn k+(turn.getD k []).length:=rfl
       have h2:=Plain.sumLen_mono turn (show k+1≤turn.length from hlt)
       have h3:=HSL.out
       rw[hlk] at h1
       omega
      clear hlk hsmu huc hpm hcq hu hul
      go_wp2
      go_loopw [94] (fun c wi=>∃ j:Nat,j≤l.length∧c=.int .i64 j∧∃ f,NMap wi pb (Plain.seen turn k j).length f∧Hid (∀ y,f y≠none↔y∈Plain.seen turn k j)∧Hid (Plain.Good g p turn k j)∧Chg [] wz wi) (fun c _=>l.length - (intOf c).toNat)
      case atStart=>exact⟨0,Nat.zero_le _,rfl,f,HPM.out,hf,hgood,HCQ.out⟩
      case round =>
       obtain⟨j,hj,rfl,f,hpm,hf,hgood,hci⟩:=hrel
       have HPN:=lh hpm
       have HPI:=lh hpm.imap
       have HCI:=lh (HC.out.trans hci (by simp))
       have HCJ:=lh hci
       by_cases hltj:j<l.length
       ·obtain⟨ub,uoff,rfl,hcj⟩:=HUC.out (by intro e;rw[e] at hltj;simp at hltj)
        have cj:=HCI.out.cell (hcj j hltj) (by simp)
        have hjk:j<(turn.getD k []).length:=by rw[HLK.out];exact hltj
        obtain⟨d,hdj⟩:∃ d,l.getD j 0=d:=⟨_,rfl⟩
        have hdj2:(turn.getD k []).getD j 0=d:=by rw[HLK.out];exact hdj
        have HDM:=lh (show d∈turn.getD k [] by rw[←hdj2];simp[List.getD] at hjk ⊢;simp[hjk])
        have HGN2:=lh (fun (h1:d∈p.darts) (h2:g.tail d=(k:Int)) (h3:d ∉ Plain.seen turn k j)=>hgood.out.next hjk (by rw[hdj2];exact h1) (by rw[hdj2];exact h2) (by rw[hdj2];exact h3))
        have HSN:=lh (Plain.seen_next hjk)
        rw[hdj2] at HSN
        have HONE:=lh (fun (hT:Plain.TurnsOk g p turn)=>hT.once hjk)
        rw[hdj2] at HONE
        have ID:=HUS.out d (by rw[←hdj];simp[List.getD,hltj])
        have IJ:I64 (j:Int):=I64.mk (by omega) (by omega)
        have hsl:(Plain.seen turn k j).length<maxLen:=by have:=HSEEN.out j (by omega);have:=HSL.out;unfold maxLen;omega
        have HLE:=lh (show IMap wr lb (2*p.e.length) (Plain.leavesOf g p p.e.length) from HNM.out.imap.chg HCJ.out (by simp))
        rw[hdj] at cj
        clear hcj hjk hdj hdj2 hpm hci
        have HLA:=lh (congrFun (Plain.leavesOf_all g p) d)
        by_cases hd:d∈p.darts
        ·by_cases hv:g.tail d=(k:Int)
         ·by_cases hs:d∈Plain.seen turn k j
          ·have HB:=lh (show Plain.turnErr g p turn=5 from Plain.turnErr_bad HR.out (fun hT=>HONE.out hT hs))
           have HV1:Hid ((Plain.leavesOf g p p.e.length d).getD 0=(k:Int)):=lh (by rw[HLA.out,if_pos hd];exact hv)
           have HT1:Hid ((Plain.leavesOf g p p.e.length d).isSome=true):=lh (by rw[HLA.out,if_pos hd];rfl)
           obtain⟨u2,hu2⟩:∃ u2,(f d).getD 0=u2:=⟨_,rfl⟩
           obtain⟨t2,ht2⟩:∃ t2,(f d).isSome=t2:=⟨_,rfl⟩
           have HV2:=lh hu2
           have HT2:=lh ht2
           have HT3:Hid (t2=true):=lh (by rw[←ht2];exact Option.isSome_iff_ne_none.2 ((hf.out d).2 hs))
           obtain rfl:=HT3.out
           clear hu2 ht2 hs hd hv
           have tok1:True:=trivial
           go_wp2_with (first
            | (at_lookup;have _t:=tok1;refine wp_look_any _ rfl _ _ rfl HLE.out rfl ID rfl HV1 HT1 ?_;clear tok1)
            | (at_lookup;refine wp_look_any _ rfl _ _ rfl HPI.out rfl ID rfl HV2 HT2 ?_))
           refine bodyPost_ret (v:=.tuple #[.pointer none,.int .i64 5]) (by simp[results,Tryz.results139,go_sem]) rfl ?_
           rw[HB.out]
           exact⟨_,rfl,fun _=>rfl,fun h=>absurd h (by decide),HCI.out⟩
          have HFN:=lh (show f d=none from Classical.byContradiction fun h=>hs ((hf.out d).1 h))
          have HV1:Hid ((Plain.leavesOf g p p.e.length d).getD 0=(k:Int)):=lh (by rw[HLA.out,if_pos hd];exact hv)
          have HT1:Hid ((Plain.leavesOf g p p.e.length d).isSome=true):=lh (by rw[HLA.out,if_pos hd];rfl)
          have HV2:Hid ((f d).getD 0=0):=lh (by rw[HFN.out];rfl)
          have HT2:Hid ((f d).isSome=false):=lh (by rw[HFN.out];rfl)
          have HGO:=lh (HGN2.out hd hv hs)
          have HFS:=lh (show ∀ y,(if y=d then some (j:Int) else f y)≠none↔y∈Plain.seen turn k (j+1) by
           intro y
           rw[HSN.out,List.mem_append,List.mem_singleton]
           by_cases e:y=d
           ·simp[e]
           rw[if_neg e];simp only[e,or_false];exact hf.out y)
          have HSNL:=lh (show (Plain.seen turn k (j+1)).length=(Plain.seen turn k j).length+1 by rw[HSN.out];simp)
          clear hd hv hs
          have tok1:True:=trivial
          go_wp2_with (first
           | (at_lookup;have _t:=tok1;refine wp_look_any _ rfl _ _ rfl HLE.out rfl ID rfl HV1 HT1 ?_;clear tok1)
           | (at_lookup;refine wp_look_any _ rfl _ _ rfl HPI.out rfl ID rfl HV2 HT2 ?_)
           | (at_mapUpdate;refine wp_nstore _ rfl _ _ _ rfl HPN.out hsl rfl ID IJ HFN.out rfl rfl ?_;intro w6 m6 c6;have M6:=lh m6;have C6:=lh c6;clear m6 c6))
          go_roundw
          case rel=>exact⟨j+1,by omega,by go_num,_,by rw[HSNL.out];exact M6.out,HFS,HGO,HCJ.out.trans C6.out (fun i hi=>Or.inr (by have:=HPB.out;simp at hi;omega))⟩
          case measure=>simp[intOf];omega
         have HB:=lh (show Plain.turnErr g p turn=5 from Plain.turnErr_bad HR.out (fun hT=>hv (hT.row HTK.out HDM.out).2))
         have HV1:Hid ((Plain.leavesOf g p p.e.length d).getD 0=g.tail d):=lh (by rw[HLA.out,if_pos hd];rfl)
         have HT1:Hid ((Plain.leavesOf g p p.e.length d).isSome=true):=lh (by rw[HLA.out,if_pos hd];rfl)
         obtain⟨u2,hu2⟩:∃ u2,(f d).getD 0=u2:=⟨_,rfl⟩
         obtain⟨t2,ht2⟩:∃ t2,(f d).isSome=t2:=⟨_,rfl⟩
         have HV2:=lh hu2
         have HT2:=lh ht2
         have hv':(g.tail d==(k:Int))=false:=beq_eq_false_iff_ne.2 hv
         generalize g.tail d=td at *
         clear hu2 ht2 hd
         have tok1:True:=trivial
         go_wp2_with (first
          | (at_lookup;have _t:=tok1;refine wp_look_any _ rfl _ _ rfl HLE.out rfl ID rfl HV1 HT1 ?_;clear tok1)
          | (at_lookup;refine wp_look_any _ rfl _ _ rfl HPI.out rfl ID rfl HV2 HT2 ?_))
         refine bodyPost_ret (v:=.tuple #[.pointer none,.int .i64 5]) (by simp[results,Tryz.results139,go_sem]) rfl ?_
         rw[HB.out]
         exact⟨_,rfl,fun _=>rfl,fun h=>absurd h (by decide),HCI.out⟩
        have HB:=lh (show Plain.turnErr g p turn=5 from Plain.turnErr_bad HR.out (fun hT=>hd (hT.row HTK.out HDM.out).1))
        have HV1:Hid ((Plain.leavesOf g p p.e.length d).getD 0=0):=lh (by rw[HLA.out,if_neg hd];rfl)
        have HT1:Hid ((Plain.leavesOf g p p.e.length d).isSome=false):=lh (by rw[HLA.out,if_neg hd];rfl)
        obtain⟨u2,hu2⟩:∃ u2,(f d).getD 0=u2:=⟨_,rfl⟩
        obtain⟨t2,ht2⟩:∃ t2,(f d).isSome=t2:=⟨_,rfl⟩
        have HV2:=lh hu2
        have HT2:=lh ht2
        clear hu2 ht2 hd
        have tok1:True:=trivial
        go_wp2_with (first
         | (at_lookup;have _t:=tok1;refine wp_look_any _ rfl _ _ rfl HLE.out rfl ID rfl HV1 HT1 ?_;clear tok1)
         | (at_lookup;refine wp_look_any _ rfl _ _ rfl HPI.out rfl ID rfl HV2 HT2 ?_))
        refine bodyPost_ret (v:=.tuple #[.pointer none,.int .i64 5]) (by simp[results,Tryz.results139,go_sem]) rfl ?_
        rw[HB.out]
        exact⟨_,rfl,fun _=>rfl,fun h=>absurd h (by decide),HCI.out⟩
       have e:j=l.length:=by omega
       subst e
       have HN6:=lh (show NMap wr pb (Plain.seen turn (k+1) 0).length f by rw[HSR.out];exact HPN.out)
       have HF6:Hid (∀ y,f y≠none↔y∈Plain.seen turn (k+1) 0):=by rw[HSR.out];exact hf
       have HG6:=lh (HGR.out hgood.out)
       clear hpm hci
       go_wp2
       go_roundw
       case rel=>exact⟨k+1,by have:=HTK.out;omega,by go_num,f,HN6.out,HF6,HG6,HCJ.out⟩
       case measure=>have:=HTK.out;simp[intOf];omega
     have e:k=turn.length:=by omega
     subst e
     rw[Plain.seen_all] at hpm hf
     have HNP:=lh hpm
     have hln1:=hpm.len
     have HNL:=lh (HNM.out.chg hcq (by simp))
     have hln2:=HNL.out.len
     have HCF:=lh (HC.out.trans hcq (by simp))
     have hfl:turn.flatten.length<2147483648:=by have:=Plain.sumLen_flat turn turn.length (by omega);rw[List.take_length] at this;have:=HSL.out;omega
     have HFL:=lh (fun (hT:Plain.TurnsOk g p turn)=>hT.flat_len (Plain.Pt.ok_of_err HR.out))
     have HGT:=lh (fun (h:turn.flatten.length=2*p.e.length)=>hgood.out.turns (Plain.Pt.ok_of_err HR.out) HL.out h)
     have HIN:=lh (HROWP.out.ints.fresh hcq)
     clear hpm hcq
     generalize turn.flatten.length=fl at *
     by_cases hq:fl=2*p.e.length
     ·have HB:=lh (show Plain.turnErr g p turn=0 from Plain.turnErr_ok HR.out (HGT.out hq))
      subst hq
      go_wp2_with fail
      refine (take_any _ _ turn _ p.darts lb (2*p.e.length) _ hTL HSL.out (HT.out.fresh HCF.out) HNL.out HIN.out).mono ?_
      rintro e w7 ⟨vt',rfl,hrota,hc7⟩
      have HRO:=lh hrota
      have HC7:=lh (HCF.out.trans hc7 (by simp))
      have HSZ7:=lh HCF.out.size
      have HLA:=lh (Plain.leavesOf_all g p)
      clear hrota hc7 hln1 hln2
      go_wp2
      refine bodyPost_ret (v:=.tuple #[.pointer (some ⟨wr.heap.size+1,0,none⟩),.int .i64 0]) (by simp[results,Tryz.results139,go_sem]) rfl ?_
      rw[HB.out]
      exact⟨_,rfl,fun h=>absurd rfl h,fun _=>⟨_,_,_,_,_,_,_,rfl,by have:=HSZ7.out;omega,by rw[←HLA.out];exact HRO.out⟩,HC7.out⟩
     have HB:=lh (show Plain.turnErr g p turn=5 from Plain.turnErr_bad HR.out (fun hT=>hq (HFL.out hT)))
     have hq':((fl:Int)==2*(p.e.length:Int))=false:=beq_eq_false_iff_ne.2 (by omega)
     go_wp2
     refine bodyPost_ret (v:=.tuple #[.pointer none,.int .i64 5]) (by simp[results,Tryz.results139,go_sem]) rfl ?_
     rw[HB.out]
     exact⟨_,rfl,fun _=>rfl,fun h=>absurd h (by decide),HCF.out⟩
  have HB:=lh (show Plain.turnErr g p turn=5 from Plain.turnErr_bad hr (fun h=>hl h.len))
  clear hr
  go_wp2
  refine bodyPost_ret (v:=.tuple #[.pointer none,.int .i64 5]) (by simp[results,Tryz.results139,go_sem]) rfl ?_
  rw[HB.out]
  exact⟨_,rfl,fun _=>rfl,fun h=>absurd h (by decide),HC2.out⟩
 have HB:=lh (show Plain.turnErr g p turn=p.err g from Plain.turnErr_part hr)
 have HR:=lh hr
 generalize p.err g=er at *
 go_wp2
 refine bodyPost_ret (v:=.tuple #[.pointer none,.int .i64 er]) (by simp[results,Tryz.results139,go_sem]) rfl ?_
 rw[HB.out]
 exact⟨_,rfl,fun _=>rfl,fun h=>absurd h HR.out,HC2.out⟩
end Go.Proofs.YtkacjmoamgjfpaaGreat
