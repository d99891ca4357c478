/- slices.Equal, slices.EqualFunc at rows, plan.Same: contracts. Conditions: lists, plans that lie in memory and read so, of a bounded size. -/
import Derived.Test.YtkacjmoamgjfpaaGreatHxRef09
import Derived.Test.YtkacjmoamgjfpaaGreatHxGrps
namespace Go.Proofs.YtkacjmoamgjfpaaGreat
open Go.RowKit Go.Maps
theorem seq_any (va vb:Value) (a b:List Int) (w:World) (ha:IntsAt w va a) (hb:IntsAt w vb b) :
  Calls Tryz.prog 73 #[va,vb] w fun e w'=>e=.returned (.bool (decide (a=b)))∧Chg [] w w':=by
 obtain⟨ao,ac,rfl,-,ham,hac⟩:=ha
 obtain⟨bo,bc,rfl,-,hbm,hbc⟩:=hb
 by_cases hl:a.length=b.length
 ·by_cases h0:a=[]
  ·subst h0
   have hb0:b=[]:=List.length_eq_zero_iff.1 hl.symm
   subst hb0
   refine (Tryz.slices_Equal_int_empty ao bo ac 0 bc w (by decide)).mono ?_
   rintro e w' ⟨rfl,rfl⟩
   exact⟨rfl,Chg.refl _ _⟩
  have hb0:b≠[]:=fun e=>h0 (List.length_eq_zero_iff.1 (by rw[hl,e];rfl))
  obtain⟨ba,oa,rfl,ca⟩:=hac h0
  obtain⟨bb,ob,rfl,cb⟩:=hbc hb0
  refine (Tryz.slices_Equal_int ba oa a.length ac bb ob b.length bc a b w (Nat.le_refl _) (Nat.le_refl _) (by omega) (by omega) ca cb).mono ?_
  rintro e w' ⟨rfl,n,rfl⟩
  refine⟨?_,?_⟩
  ·rw[List.take_length,List.take_length]
   by_cases h:a=b
   ·subst h;simp
   have h1:(a==b)=false:=beq_eq_false_iff_ne.2 h
   rw[h1,decide_eq_false (show ¬ a=b from h)]
  exact (Chg.refl [] w).drewN _
 refine (Tryz.slices_Equal_int_lens ao bo a.length ac b.length bc w hl).mono ?_
 rintro e w' ⟨rfl,rfl⟩
 exact⟨by simp[show ¬ a=b from fun e=>hl (by rw[e])],Chg.refl _ _⟩
namespace Plain
def rowsTo (l m:List (List Int)) (k:Nat):Prop:=∀ i,i<k→l.getD i []=m.getD i []
theorem rows_ext {l m:List (List Int)} (hl:l.length=m.length) (h:rowsTo l m l.length):l=m:=by
 refine List.ext_getElem hl fun i h1 h2=>?_
 have:=h i h1
 simpa[List.getD,h1,h2] using this
end Plain
set_option maxRecDepth 100000 in
theorem seqf_any (va vb:Value) (l m:List (List Int)) (w:World) (hll:l.length<1000000000) (ha:RowsAt w va l) (hb:RowsAt w vb m) :
  Calls Tryz.prog 75 #[va,vb,.func (.func 73) #[] #[]] w fun e w'=>e=.returned (.bool (decide (l=m)))∧Chg [] w w':=by
 have HA:=lh ha
 have HB:=lh hb
 obtain⟨ao,ac,rfl,-⟩:=ha
 obtain⟨bo,bc,rfl,-⟩:=hb
 go_enter Tryz.func75,Tryz.ntmps75
 by_cases hl:l.length=m.length
 ·have HL:=lh hl
  obtain⟨n,hn⟩:∃ n,l.length=n:=⟨_,rfl⟩
  have HN:=lh hn
  have hn2:m.length=n:=hl.symm.trans hn
  rw[hn] at hll ⊢
  rw[hn2] at ⊢
  have HN2:=lh hn2
  clear hl hn hn2
  go_wp2
  go_loopw [17] (fun c wr=>∃ k:Nat,k≤n∧c=.int .i64 k∧Chg [] w wr∧Hid (Plain.rowsTo l m k)) (fun c _=>n - (intOf c).toNat)
  case atStart=>exact⟨0,Nat.zero_le _,rfl,Chg.refl _ _,lh (fun i hi=>by omega)⟩
  case round =>
   obtain⟨k,hk,rfl,hc,hrt⟩:=hrel
   have HC:=lh hc
   by_cases hlt:k<n
   ·obtain⟨b1,o1,u1,e1,c1,-,r1⟩:=(HA.out.fresh hc).rowc (k:=k) (by rw[HN.out];exact hlt)
    obtain⟨b2,o2,u2,e2,c2,-,r2⟩:=(HB.out.fresh hc).rowc (k:=k) (by rw[HN2.out];exact hlt)
    have HEQ:=lh (show Plain.rowsTo l m k∧l.getD k []=m.getD k []→Plain.rowsTo l m (k+1) from fun h i hi=>by
     rcases (show i<k∨i=k by omega) with q | q
     ·exact h.1 i q
     rw[q];exact h.2)
    have HNE:=lh (show l.getD k []≠m.getD k []→l≠m from fun h e=>h (by rw[e]))
    obtain⟨rx,hrx⟩:∃ x,l.getD k []=x:=⟨_,rfl⟩
    obtain⟨ry,hry⟩:∃ x,m.getD k []=x:=⟨_,rfl⟩
    rw[hrx] at r1 HEQ HNE
    rw[hry] at r2 HEQ HNE
    have R1:=lh r1
    have R2:=lh r2
    clear hc r1 r2 hrx hry
    simp only[e1,e2]
    go_wp2_with fail
    refine (seq_any _ _ rx ry _ R1.out R2.out).mono ?_
    rintro e w4 ⟨rfl,hc4⟩
    have HC4:=lh (HC.out.trans hc4 (by simp))
    clear hc4 c1 c2
    by_cases hxy:rx=ry
    ·have HNX:=lh (HEQ.out ⟨hrt.out,hxy⟩)
     rw[decide_eq_true hxy]
     clear hxy
     go_wp2
     go_roundw
     case rel=>exact⟨k+1,by omega,by go_num,HC4.out,HNX⟩
     case measure=>simp[intOf];omega
    have HF:=lh (HNE.out hxy)
    rw[decide_eq_false hxy]
    clear hxy
    go_wp2
    go_ret
    exact⟨ret_bool (decide_eq_false HF.out).symm,HC4.out⟩
   have e:k=n:=by omega
   have HALL:=lh (Plain.rows_ext HL.out (by rw[HN.out,←e];exact hrt.out))
   subst e
   clear hlt
   go_wp2
   go_ret
   exact⟨ret_bool (decide_eq_true HALL.out).symm,HC.out⟩
 have HF:=lh (show l≠m from fun e=>hl (by rw[e]))
 have hd:((l.length:Int) != (m.length:Int))=true:=by simp;omega
 clear hl
 go_wp2
 go_ret
 exact⟨ret_bool (decide_eq_false HF.out).symm,Chg.refl _ _⟩
theorem box_store {wr:World} {b:Nat} {x y:Value} {t:TypeId} (hb:wr.heap[b]?=some (.cells #[x,y] t (0,0))) (u v:Value) :
  ((wr.setCell ⟨b,0,none⟩ u).setCell ⟨b,1,none⟩ v).cell? ⟨b,0,none⟩=some u∧((wr.setCell ⟨b,0,none⟩ u).setCell ⟨b,1,none⟩ v).cell? ⟨b,1,none⟩=some v∧Chg [b] wr ((wr.setCell ⟨b,0,none⟩ u).setCell ⟨b,1,none⟩ v):=by
 have hh:=heap_setCell_same (heap_setCell_same hb 0 u) 1 v
 exact⟨(cell_of_row _ _ 0 _ _ _ hh).trans rfl,(cell_of_row _ _ 1 _ _ _ hh).trans rfl,((Chg.refl _ wr).setCell (Or.inl (by simp)) _).setCell (Or.inl (by simp)) _⟩
set_option maxRecDepth 100000 in
set_option maxHeartbeats 4000000 in
theorem psame_any (va vb:Value) (ta sa tb sb:List (List Int)) (w:World) (h1:ta.length<1000000000) (h2:sa.length<1000000000) (h3:∀ i,(ta.getD i []).length<1000000000) (h4:∀ i,(sa.getD i []).length<1000000000) (h5:tb.length<1000000000) (h6:sb.length<1000000000) (h7:∀ i,(tb.getD i []).length<1000000000) (h8:∀ i,(sb.getD i []).length<1000000000) (ha:PlAt w va ta sa) (hb:PlAt w vb tb sb) :
  Calls Tryz.prog 28 #[va,vb] w fun e w'=>e=.returned (.bool (decide (ta.map Plain.first=tb.map Plain.first∧sa=sb)))∧Chg [] w w':=by
 have HA:=lh ha
 have HB:=lh hb
 obtain⟨u1,u2,rfl,⟨ao,ac,rfl,-⟩,⟨bo,bc,rfl,-⟩⟩:=ha
 obtain⟨u3,u4,rfl,⟨co,cc,rfl,-⟩,⟨eo,ec,rfl,-⟩⟩:=hb
 have H3:=lh h3
 have H4:=lh h4
 have H7:=lh h7
 have H8:=lh h8
 obtain⟨hb1,hb2,hc1⟩:=box_two w #[.slice ao ta.length ac,.slice bo sa.length bc] #[.slice co tb.length cc,.slice eo sb.length ec] 32 32
 have HC1:=lh hc1
 have B1:=lh hb1
 have B2:=lh hb2
 have z0:=(cell_of_row _ _ 0 _ _ _ hb1).trans (show _=some (Value.slice ao ta.length ac) from rfl)
 have z1:=(cell_of_row _ _ 1 _ _ _ hb1).trans (show _=some (Value.slice bo sa.length bc) from rfl)
 have y0:=(cell_of_row _ _ 0 _ _ _ hb2).trans (show _=some (Value.slice co tb.length cc) from rfl)
 have y1:=(cell_of_row _ _ 1 _ _ _ hb2).trans (show _=some (Value.slice eo sb.length ec) from rfl)
 have HSZ:=lh (show ((w.alloc (.cells #[.slice ao ta.length ac,.slice bo sa.length bc] 32)).alloc (.cells #[.slice co tb.length cc,.slice eo sb.length ec] 32)).heap.size=w.heap.size+2 by simp)
 clear h3 h4 h7 h8 hb1 hb2 hc1
 go_enter Tryz.func28,Tryz.ntmps28
 go_wp2
 generalize ((w.alloc (.cells #[.slice ao ta.length ac,.slice bo sa.length bc] 32)).alloc (.cells #[.slice co tb.length cc,.slice eo sb.length ec] 32))=w1 at *
 have hS0:Chg [w.heap.size] w1 w1.drew:=(Chg.refl _ w1).drew
 have HF0:=lh ((Chg.refl [] w1).drew)
 refine wp_region_way (fun wx=>Chg [w.heap.size] w1 wx) [2] (Way.line [2,0,1,3,4,5] .done) (by kernel_rfl) (by kernel_rfl) ?_
 simp only[Way.line]
 repeat
  first
   | (refine along_off rfl (by rfl) (by rfl) (fun _ _ _ h=>h) hS0 ?_;simp only[Act.put,Z1,Z2,Z3,Z4,Z5,Z6])
   | (refine along_read (v:=?_) rfl (by rfl) (by rfl) (fun _ _ _ h=>h) hS0 (fun w' hS'=>?_) ?_;rotate_left;(focus (have rd0:=hS'.cell y0 (by simp);have rd1:=hS'.cell y1 (by simp);clear hS';go_simp;try with_reducible rfl));simp only[Act.put,Z1,Z2,Z3,Z4,Z5,Z6])
   | (refine along_skip rfl (by rfl) (by rfl) hS0 ?_;simp only[Act.put,Z1,Z2,Z3,Z4,Z5,Z6])
 refine along_op rfl (by rfl) (by rfl) (fun K hK=>?_)
 go_simp
 refine hK.out _ _ (fun _=>hS0) ?_
 clear hK K
 try simp only[Act.put,Z1,Z2,Z3,Z4,Z5,Z6]
 refine along_op rfl (by rfl) (by rfl) (fun K hK=>?_)
 go_simp
 refine (clean_any _ ta sa _ h1 h2 H3.out H4.out (HA.out.fresh (HC1.out.trans HF0.out (by simp)))).mono ?_
 rintro e w2 ⟨vy,rfl,hvy,hcx⟩
 have HVY:=lh hvy
 have HF1:=lh (HF0.out.trans hcx (by simp))
 have hS1:=hS0.trans hcx (by simp)
 have HZ:=lh hS0.size
 clear hS0 hcx hvy
 have hS0:=hS1
 clear hS1
 refine hK.out _ _ (fun _=>hS0) ?_
 clear hK K
 try simp only[Act.put,Z1,Z2,Z3,Z4,Z5,Z6]
 refine along_op rfl (by rfl) (by rfl) (fun K hK=>?_)
 go_simp
 refine (clean_any _ tb sb _ h5 h6 H7.out H8.out (HB.out.fresh (HC1.out.trans HF1.out (by simp)))).mono ?_
 rintro e w3 ⟨vz,rfl,hvz,hcx⟩
 have HVZ:=lh hvz
 have H23:=lh hcx
 have HF2:=lh (HF1.out.trans hcx (by simp))
 have HZ2:=lh hS0.size
 have hS1:=hS0.trans hcx (by simp)
 clear hS0 hcx hvz
 have hS0:=hS1
 clear hS1
 refine hK.out _ _ (fun _=>hS0) ?_
 clear hK K
 try simp only[Act.put,Z1,Z2,Z3,Z4,Z5,Z6]
 obtain⟨q1,q2,rfl,⟨o1,k1,rfl,-⟩,⟨o2,k2,rfl,-⟩⟩:=HVY.out [] w2 (Chg.refl _ _) (by simp)
 obtain⟨q3,q4,rfl,⟨o3,k3,rfl,-⟩,⟨o4,k4,rfl,-⟩⟩:=HVZ.out [] w3 (Chg.refl _ _) (by simp)
 have b1:=HF2.out.heap B1.out (by simp)
 have r0:=(cell_of_row _ _ 0 _ _ _ b1).trans (show _=some (Value.slice ao ta.length ac) from rfl)
 have r1:=(cell_of_row _ _ 1 _ _ _ b1).trans (show _=some (Value.slice bo sa.length bc) from rfl)
 have f0:=free_at b1 0
 have f1:=free_at b1 1
 obtain⟨p0,p1,p2⟩:=box_store b1 (.slice o1 ta.length k1) (.slice o2 sa.length k2)
 have P0:=lh p0
 have P1:=lh p1
 have P2:=lh p2
 have b2:=p2.heap (HF2.out.heap B2.out (by simp)) (by simp)
 refine along_op rfl (by rfl) (by rfl) (fun K hK=>?_)
 go_simp
 have hS1:=hS0.trans p2 (fun j hj=>Or.inl hj)
 clear hS0 b1 r0 r1 f0 f1 p0 p1 p2
 have hS0:=hS1
 clear hS1
 refine hK.out _ _ (fun _=>hS0) ?_
 clear hK K
 try simp only[Act.put,Z1,Z2,Z3,Z4,Z5,Z6]
 generalize ((w3.setCell ⟨w.heap.size,0,none⟩ (.slice o1 ta.length k1)).setCell ⟨w.heap.size,1,none⟩ (.slice o2 sa.length k2))=w4 at *
 have r0:=(cell_of_row _ _ 0 _ _ _ b2).trans (show _=some (Value.slice co tb.length cc) from rfl)
 have r1:=(cell_of_row _ _ 1 _ _ _ b2).trans (show _=some (Value.slice eo sb.length ec) from rfl)
 have f0:=free_at b2 0
 have f1:=free_at b2 1
 obtain⟨p0,p1,p2⟩:=box_store b2 (.slice o3 tb.length k3) (.slice o4 sb.length k4)
 have R0:=lh p0
 have R1:=lh p1
 have R2:=lh p2
 refine along_op rfl (by rfl) (by rfl) (fun K hK=>?_)
 go_simp
 clear r0 r1 f0 f1 p0 p1 p2 hS0 b2
 refine hK.out _ _ (fun h=>absurd h (Bool.eq_false_iff.1 (by kernel_rfl))) ?_
 clear hK K
 try simp only[Act.put,Z1,Z2,Z3,Z4,Z5,Z6]
 generalize ((w4.setCell ⟨w.heap.size+1,0,none⟩ (.slice o3 tb.length k3)).setCell ⟨w.heap.size+1,1,none⟩ (.slice o4 sb.length k4))=w5 at *
 have HZ5:=lh (show w.heap.size+2≤w2.heap.size by rw[←HSZ.out];exact HF1.out.size)
 have H35:=lh (show Chg [w.heap.size,w.heap.size+1] w3 w5 from (P2.out.mono (by simp)).trans (R2.out.mono (by simp)) (fun j hj=>Or.inl hj))
 have hpa:=HVY.out [w.heap.size,w.heap.size+1] w5 (((H23.out).mono (by simp)).trans H35.out (fun j hj=>Or.inl hj)) (fun j hj=>by have:=HF0.out.size;have:=HSZ.out;simp at hj;omega)
 have hpb:=HVZ.out [w.heap.size,w.heap.size+1] w5 H35.out (fun j hj=>by have:=HZ5.out;simp at hj;omega)
 rw[List.length_map] at hpa hpb
 have HPA:=lh hpa
 have HPB:=lh hpb
 clear hpa hpb
 have c0:=R2.out.cell P0.out (by simp)
 have c1:=R2.out.cell P1.out (by simp)
 have c2:=R0.out
 have c3:=R1.out
 have HW5:=lh (show Chg [] w w5 from (HC1.out.trans HF2.out (by simp)).trans H35.out (fun j hj=>Or.inr (by simp at hj;omega)))
 refine along_done ?_
 clear z0 z1 y0 y1
 obtain⟨v1,v2,e1,ra1,ra2⟩:=HPA.out
 obtain⟨v3,v4,e2,rb1,rb2⟩:=HPB.out
 cases e1
 cases e2
 have RA1:=lh ra1
 have RA2:=lh ra2
 have RB1:=lh rb1
 have RB2:=lh rb2
 have HLA:=lh (show (ta.map Plain.first).length<1000000000 by rw[List.length_map];exact h1)
 have HLB:=lh (show (tb.map Plain.first).length<1000000000 by rw[List.length_map];exact h5)
 clear ra1 ra2 rb1 rb2
 go_wp2_with fail
 refine (seqf_any _ _ (ta.map Plain.first) (tb.map Plain.first) _ HLA.out RA1.out RB1.out).mono ?_
 rintro e w6 ⟨rfl,hc6⟩
 have HC6:=lh (HW5.out.trans hc6 (by simp))
 have HC56:=lh hc6
 have d0:=hc6.cell c0 (by simp)
 have d1:=hc6.cell c1 (by simp)
 have d2:=hc6.cell c2 (by simp)
 have d3:=hc6.cell c3 (by simp)
 clear c0 c1 c2 c3 hc6
 by_cases ht:ta.map Plain.first=tb.map Plain.first
 ·rw[decide_eq_true ht]
  go_wp2_with fail
  refine (seqf_any _ _ sa sb _ h2 (RA2.out.fresh HC56.out) (RB2.out.fresh HC56.out)).mono ?_
  rintro e w7 ⟨rfl,hc7⟩
  have HC7:=lh (HC6.out.trans hc7 (by simp))
  clear hc7
  go_wp2
  go_ret
  exact⟨ret_bool (by simp[ht]),HC7.out⟩
 rw[decide_eq_false ht]
 go_wp2
 go_ret
 exact⟨ret_bool (by simp[ht]),HC6.out⟩
namespace Plain
theorem grps_lens {c:Face→Int} {W:List Face}:(grps c W).length≤W.length∧∀ i,((grps c W).getD i []).length≤W.length:=by
 refine⟨?_,fun i=>?_⟩
 ·unfold grps
  rw[List.length_map]
  exact List.length_filter_le _ _
 by_cases hi:i<(grps c W).length
 ·have hm:(grps c W).getD i []∈grps c W:=by
   have:(grps c W).getD i []=(grps c W)[i]:=by simp[List.getD,hi]
   rw[this];exact List.getElem_mem hi
  obtain⟨h,e,-⟩:=mem_grps.1 hm
  rw[e]
  unfold keysAt
  rw[List.length_map]
  exact List.length_filter_le _ _
 simp[List.getD,hi]
end Plain
end Go.Proofs.YtkacjmoamgjfpaaGreat
namespace Go.Proofs.YtkacjmoamgjfpaaGreat.Plain
section
variable {g : Gr} {p q : Pt} {turn same : List (List Int)}
theorem keep_all {E l:List Int} (h:∀ d∈l,d / 2∈E):keepOf E l=l:=by
 unfold keepOf
 rw[List.filter_eq_self]
 exact fun d hd=>decide_eq_true (h d hd)
theorem row_turn {i:Nat} (hi:i<turn.length):turnAt turn (i:Int)=turn[i]:=by
 unfold turnAt
 simp[List.getD,hi]
theorem rest_turn_all (_hpe:p.err g=0) (ht:TurnsOk g p turn):restTurn p.e turn=turn.map first:=by
 unfold restTurn
 refine List.map_congr_left fun l hl=>?_
 obtain⟨i,hi,rfl⟩:=List.getElem_of_mem hl
 congr 1
 refine keep_all fun d hd=>?_
 have hlen:=ht.len
 have:=(ht.mem (i:Int) (by omega) (by omega) d).1 (by rw[row_turn hi];exact hd)
 exact mem_darts.1 this.1
theorem place_marks (hpe:p.err g=0) (ht:TurnsOk g p turn) {f:Face} (hf:f∈walksOf g p turn):place turn f∈marks f:=by
 have hW:=walks_ok hpe ht
 have hm:=(key_mark hpe ht hf).1
 unfold place
 by_cases e:f.2=[]
 ·obtain⟨v,hv,e2,e1⟩:=lone_of hW.faces hf e
  rw[if_pos e]
  have h0:seat turn (-1 - f.1)=f.1:=by
   rw[e1,show -1 - (-1 - v)=v by omega]
   unfold seat
   rw[e2,if_neg (by simp)]
  rw[h0];exact hm
 rw[if_neg e];exact hm
theorem rest_same_all (hz:planErr g p turn same=0):restSame g p p turn same=same:=by
 obtain⟨hpe,hto⟩:=zero_ok hz
 have h:Subs g p p turn:=⟨hpe,hpe,hto,fun _ h=>h,fun _ h=>h⟩
 have ho:outE p p=[]:=by
  unfold outE
  rw[List.filter_eq_nil_iff]
  intro e he
  simp[he]
 have hG:∀ x y,GenR g p p turn same x y↔RegR g p turn same x y:=fun x y=>by unfold GenR;rw[ho];exact Iff.rfl
 conv=>rhs;rw[same_grps hz]
 unfold restSame
 rw[rest_turn_all hpe hto,walks_first hpe hto]
 refine grps_congr fun f hf x hx=>?_
 rw[rest_cls h,hG]
 unfold RegR
 rw[lof_cls hz hf (place_marks hpe hto hf),lof_cls hz hx (place_marks hpe hto hx)]
end
end Go.Proofs.YtkacjmoamgjfpaaGreat.Plain
namespace Go.Proofs.YtkacjmoamgjfpaaGreat
open Go.RowKit Go.Maps
namespace Plain
theorem rest_sizes {g:Gr} {p q:Pt} {turn same:List (List Int)} (h:restErr g p q turn same=0) (hqv:q.v.length≤60) (hqe:q.e.length≤60) (hT:turn.length≤100) (hr:∀ i,(turn.getD i []).length≤200) :
  (restTurn q.e turn).length≤100∧(∀ i,((restTurn q.e turn).getD i []).length≤200)∧sumLen (restTurn q.e turn) (restTurn q.e turn).length≤20000∧(restSame g p q turn same).length≤1000∧∀ i,((restSame g p q turn same).getD i []).length≤1000:=by
 have hl:(restTurn q.e turn).length≤100:=by unfold restTurn;rw[List.length_map];exact hT
 have hrr:∀ i,((restTurn q.e turn).getD i []).length≤200:=fun i=>Nat.le_trans (restTurn_row q.e turn i) (hr i)
 obtain⟨hpz,hqer,hqvs,hqes⟩:=restErr_is h
 have hwl:=(walks_ok hqer (restTurn_ok (turnErr_zero (flatErr_zero (planErr_zero hpz).1).1).2 hqes)).len
 have hs:=sumLen_le hrr (restTurn q.e turn).length
 have hm:(restTurn q.e turn).length*200≤100*200:=Nat.mul_le_mul_right _ hl
 refine⟨hl,hrr,by omega,Nat.le_trans grps_lens.1 (by omega),fun i=>Nat.le_trans (grps_lens.2 i) (by omega)⟩
end Plain
end Go.Proofs.YtkacjmoamgjfpaaGreat
namespace Go.Proofs.YtkacjmoamgjfpaaGreat.Plain
theorem Gen.leastK {K:List Int} {R Q:Int→Int→Prop} (hQ:Eqv Q) (h1:∀ x∈K,∀ y∈K,R x y→Q x y):∀ {E:List Int},(∀ e∈E,2*e∈K∧2*e+1∈K)→(∀ e∈E,Q (2*e) (2*e+1))→∀ {x y:Int},x∈K→y∈K→Gen R E x y→Q x y
 | [],_,_,x,y,hx,hy,h=>h1 x hx y hy h
 | a :: E,hE,h2,x,y,hx,hy,h=>by
  have ih:∀ {x y:Int},x∈K→y∈K→Gen R E x y→Q x y:=fun {x y}=>Gen.leastK (R:=R) hQ h1 (E:=E) (fun e he=>hE e (List.mem_cons_of_mem _ he)) (fun e he=>h2 e (List.mem_cons_of_mem _ he)) (x:=x) (y:=y)
  obtain⟨a1,a2⟩:=hE a (by simp)
  have ha:=h2 a (by simp)
  rcases h with q | ⟨q,r⟩ | ⟨q,r⟩
  ·exact ih hx hy q
  ·exact hQ.trans (hQ.trans (ih hx a1 q) ha) (ih a2 hy r)
  exact hQ.trans (hQ.trans (ih hx a2 q) (hQ.symm ha)) (ih a1 hy r)
theorem list_ahead {x:Int} {l m:List Int} (hl:(x :: l).Nodup) (hm:(x :: m).Nodup) (h:∀ y∈x :: l,ahead (x :: l) y=ahead (x :: m) y):l=m:=by
 have r1:=ahead_ring hl (by simp)
 have r2:=ahead_ring hm (by simp)
 have turn:∀ {p:Int→Int} {l:List Int},Ring p (x :: l).reverse→Trail p x l.reverse x:=by
  intro p l hr
  rw[List.reverse_cons] at hr
  cases e:l.reverse with
  | nil=>rw[e] at hr;exact hr
  | cons y k =>
   rw[e] at hr
   have hr:Ring p (y :: k++[x]):=hr
   have:=Ring.turn (m:=[]) hr
   exact this
 have t1:=turn r1
 have t2:=turn r2
 have t1:Trail (ahead (x :: m)) x l.reverse x:=t1.congr fun y hy=>h y (by
  rcases hy with e | hy
  ·rw[e];simp
  exact List.mem_cons_of_mem _ (List.mem_reverse.1 hy))
 rw[List.nodup_cons] at hl hm
 have:=Trail.det t1 t2 (fun k=>hl.1 (List.mem_reverse.1 k)) (fun k=>hm.1 (List.mem_reverse.1 k))
 exact List.reverse_inj.1 this
theorem first_cons {l:List Int} (h:l≠[]):∃ x m,first l=x :: m∧∀ y∈l,x≤y:=by
 have h0:0<l.length:=List.length_pos_iff.2 h
 have hl:=lst_lt h0 l.length (Nat.le_refl _)
 cases e:first l with
 | nil =>
  have:=(first_perm l).length_eq
  rw[e] at this
  exact absurd (List.length_eq_zero_iff.1 this.symm) h
 | cons x m =>
  refine⟨x,m,rfl,fun y hy=>?_⟩
  obtain⟨i,hi,rfl⟩:=mem_getD hy
  have e0:x=l.getD (lst l l.length) 0:=by
   have h1:(first l).getD 0 0=x:=by rw[e];rfl
   rw[←h1]
   unfold first
   have hd:0<l.length - lst l l.length:=by omega
   simp[List.getD,List.getElem?_append,hl,hd]
  rw[e0]
  exact lst_min l l.length i hi
theorem first_turn {l m:List Int} (hl:l.Nodup) (hp:l.Perm m) (h:∀ y∈l,ahead l y=ahead m y):first l=first m:=by
 by_cases e:l=[]
 ·subst e;rw[List.Perm.eq_nil hp.symm]
 have hm:m.Nodup:=hp.nodup_iff.1 hl
 have em:m≠[]:=fun k=>e (List.Perm.eq_nil (k ▸ hp))
 obtain⟨x,a,ha,hxa⟩:=first_cons e
 obtain⟨y,b,hb,hyb⟩:=first_cons em
 have hxl:x∈l:=(first_perm l).mem_iff.1 (by rw[ha];simp)
 have hym:y∈m:=(first_perm m).mem_iff.1 (by rw[hb];simp)
 have hxy:x=y:=by
  have h1:=hxa y (hp.mem_iff.2 hym)
  have h2:=hyb x (hp.mem_iff.1 hxl)
  omega
 subst hxy
 have n1:(first l).Nodup:=(first_perm l).nodup_iff.2 hl
 have n2:(first m).Nodup:=(first_perm m).nodup_iff.2 hm
 have hah:∀ z∈first l,ahead (first l) z=ahead (first m) z:=fun z hz=>by
  have hzl:=(first_perm l).mem_iff.1 hz
  rw[ahead_begun hl z hzl,ahead_begun hm z (hp.mem_iff.1 hzl)]
  exact h z hzl
 rw[ha,hb] at hah
 rw[ha] at n1
 rw[hb] at n2
 rw[ha,hb,list_ahead n1 n2 hah]
theorem ahead_keep {E l:List Int} (hn:l.Nodup) {d:Int} (hd:d∈keepOf E l):ahead (keepOf E (first l)) d=ahead (keepOf E l) d:=by
 have hd2:=List.mem_filter.1 hd
 have hof:onE E d=true:=hd2.2
 have hfl:d∈first l:=(first_perm l).mem_iff.2 hd2.1
 have nf:(first l).Nodup:=(first_perm l).nodup_iff.2 hn
 have e1:=land_ahead (P:=onE E) hn hd2.1 hof
 have e2:=land_ahead (P:=onE E) nf hfl hof
 have key:∀ {z:Int},z∈l→(back (first l) z).find? (onE E)=(back l z).find? (onE E):=by
  intro z hz
  have hb:∀ n,∀ z∈l,(∃ s r,back l z=s++r∧s.length=n∧(∀ y∈s,onE E y=false)∧∃ y r',r=y :: r'∧onE E y=true)→(back (first l) z).find? (onE E)=(back l z).find? (onE E):=by
   intro n
   induction n with
   | zero =>
    rintro z hz ⟨s,r,e,hs,-,y,r',hr,hy⟩
    have:s=[]:=List.length_eq_zero_iff.1 hs
    subst this
    obtain⟨t,et⟩:=back_self hz
    rw[et,List.nil_append,hr] at e
    obtain⟨rfl,-⟩:=List.cons.inj e
    rw[land_at hz hy,land_at ((first_perm l).mem_iff.2 hz) hy]
   | succ n ih =>
    rintro z hz ⟨s,r,e,hs,hno,hyes⟩
    cases s with
    | nil=>simp at hs
    | cons a s =>
     obtain⟨t,e1,e2⟩:=back_ahead hn hz
     rw[e1] at e
     obtain⟨rfl,et⟩:=List.cons.inj e
     have hz0:onE E z=false:=hno z (by simp)
     obtain⟨y,r',hr,hy⟩:=hyes
     have:=ih _ (ahead_mem hn hz) ⟨s,r++[z],by rw[e2,et];simp,by simpa using hs,fun y hy=>hno y (List.mem_cons_of_mem _ hy),y,r'++[z],by rw[hr];rfl,hy⟩
     rw[land_skip hn hz hz0] at this
     rw[←ahead_begun hn z hz,land_skip nf ((first_perm l).mem_iff.2 hz) hz0] at this
     exact this
  cases e:(back l z).find? (onE E) with
  | none =>
   have:=List.find?_eq_none.1 e d ((mem_back hz).2 hd2.1)
   exact absurd hof this
  | some u =>
   obtain⟨hu,s,r,e3,hs⟩:=List.find?_eq_some_iff_append.1 e
   rw[←e]
   exact hb s.length z hz ⟨s,u :: r,e3,rfl,fun y hy=>by simpa using hs y hy,u,r,rfl,hu⟩
 rw[ahead_begun hn d hd2.1,key (ahead_mem hn hd2.1),e1] at e2
 exact (Option.some.inj e2).symm
theorem restTurn_twice {E F:List Int} {turn:List (List Int)} (hn:∀ l∈turn,l.Nodup) (hs:∀ e∈F,e∈E):restTurn F (restTurn E turn)=restTurn F turn:=by
 unfold restTurn
 rw[List.map_map]
 refine List.map_congr_left fun l hl=>?_
 show first (keepOf F (first (keepOf E l)))=first (keepOf F l)
 have hnl:=hn l hl
 have hk:keepOf F (keepOf E l)=keepOf F l:=by
  unfold keepOf
  rw[List.filter_filter]
  refine List.filter_congr fun d _=>?_
  by_cases h1:d / 2∈F
  ·simp[h1,hs _ h1]
  simp[h1]
 have hnk:(keepOf E l).Nodup:=hnl.filter _
 rw[←hk]
 refine (first_turn (hnk.filter _) (((first_perm (keepOf E l)).filter _).symm) fun y hy=>?_).symm
 exact (ahead_keep hnk hy).symm
section
variable {g : Gr} {p q r : Pt} {turn same : List (List Int)}
theorem gen_stand (hz:planErr g p turn same=0) (h:Subs g p q turn) (hne:p.v≠[]) {u:Int} (hu:u∈ground g p turn p.v):GenR g p q turn same u (stand turn (lnd g turn q.e u)):=by
 have cut:=rest_cut hz h hne
 refine stand_rel h GenR.eqv (fun y hy hn=>?_) hu
 have:=cut.left y ((all_ground h.pk).2 (Or.inl hy))
 rw[go_off h.pk h.qk.en hy (fun k=>hn (mem_darts.2 k))] at this
 exact this
theorem gen_same (hz:planErr g p turn same=0) (h:Subs g p q turn) (hne:p.v≠[]) {u v:Int} (hs:Same (walksIn g (walksOf g q (restTurn q.e turn)) q.v) u v):GenR g p q turn same (stand turn u) (stand turn v):=by
 obtain⟨C,hC⟩:=rest_rings h
 have cut:=rest_cut hz h hne
 exact Same.least (GenR.eqv (g:=g) (p:=p) (q:=q) (turn:=turn) (same:=same)) hC.rings (fun w hw=>cut.left w (hC.all.mem_iff.1 hw)) (same_stand h hC hs)
theorem reg_rest (hz:planErr g p turn same=0) (h:Subs g p q turn) (hne:p.v≠[]) {u v:Int} (hu:u∈ground g q (restTurn q.e turn) q.v) (hv:v∈ground g q (restTurn q.e turn) q.v) :
  RegR g q (restTurn q.e turn) (restSame g p q turn same) u v↔GenR g p q turn same (stand turn u) (stand turn v):=by
 have hz2:=rest_right hz h.qe h.sube h.subv
 have hG:=GenR.eqv (g:=g) (p:=p) (q:=q) (turn:=turn) (same:=same)
 have hk:=walks_keys h.qe (walks_ok h.qe h.turns)
 have place:∀ {u:Int},u∈ground g q (restTurn q.e turn) q.v→∃ f∈walksOf g q (restTurn q.e turn),lof g q (restTurn q.e turn) (restSame g p q turn same) u=cls g q (restTurn q.e turn) (restSame g p q turn same) f∧GenR g p q turn same (stand turn u) (place turn f):=by
  intro u hu
  obtain⟨f,hf,hm⟩:=mark_of h.qe h.turns hu
  refine⟨f,hf,lof_cls hz2 hf hm,?_⟩
  rw[place_stand h.qe h.turns hf]
  exact gen_same hz h hne (Or.inr ⟨marks f,(marks_ground h.qe h.turns hf).1,hm,(key_mark h.qe h.turns hf).1⟩)
 obtain⟨f,hf,e1,g1⟩:=place hu
 obtain⟨x,hx,e2,g2⟩:=place hv
 unfold RegR
 rw[e1,e2]
 have hcg:cls g q (restTurn q.e turn) (restSame g p q turn same) f=cls g q (restTurn q.e turn) (restSame g p q turn same) x↔restCls (leftOf (regionsOf g p turn same) (walksOf g p turn)) p q.e turn f=restCls (leftOf (regionsOf g p turn same) (walksOf g p turn)) p q.e turn x :=
  cls_grps hk (same_grps hz2).symm hf hx
 rw[hcg,rest_cls h]
 exact⟨fun k=>hG.trans g1 (hG.trans k (hG.symm g2)),fun k=>hG.trans (hG.symm g1) (hG.trans k g2)⟩
theorem Subs.again (h:Subs g p q turn) (hre:r.err g=0) (hs:∀ e∈r.e,e∈q.e) (hv:∀ v∈r.v,v∈q.v):Subs g q r (restTurn q.e turn)∧Subs g p r turn :=
 ⟨⟨h.qe,hre,h.turns,hs,hv⟩,⟨h.pe,hre,h.to_,fun e he=>h.sube e (hs e he),fun v k=>h.subv v (hv v k)⟩⟩
theorem mem_outE {e:Int}:e∈(outE p q).reverse++[]↔e∈p.e∧e ∉ q.e:=by
 rw[List.append_nil,List.mem_reverse];unfold outE;rw[List.mem_filter,decide_eq_true_iff]
theorem gen_twice (hz:planErr g p turn same=0) (h:Subs g p q turn) (h2:Subs g q r (restTurn q.e turn)) (_h3:Subs g p r turn) (hqn:q.v≠[]) {u v:Int} (hu:u∈ground g q (restTurn q.e turn) q.v) (hv:v∈ground g q (restTurn q.e turn) q.v) :
  GenR g q r (restTurn q.e turn) (restSame g p q turn same) u v↔GenR g p r turn same (stand turn u) (stand turn v):=by
 have hne:p.v≠[]:=by
  obtain⟨v,hv⟩:=List.exists_mem_of_ne_nil _ hqn
  exact List.ne_nil_of_mem (h.subv v hv)
 have hz2:=rest_right hz h.qe h.sube h.subv
 have hG:=GenR.eqv (g:=g) (p:=p) (q:=q) (turn:=turn) (same:=same)
 have hH:=GenR.eqv (g:=g) (p:=p) (q:=r) (turn:=turn) (same:=same)
 have hI:=GenR.eqv (g:=g) (p:=q) (q:=r) (turn:=restTurn q.e turn) (same:=restSame g p q turn same)
 have up:∀ {x y:Int},GenR g p q turn same x y→GenR g p r turn same x y:=fun {x y} k=>Gen.mono (RegR.eqv g p turn same) (fun e he=>by
  obtain⟨a,b⟩:=mem_outE.1 he
  exact mem_outE.2 ⟨a,fun k=>b (h2.sube e k)⟩) k
 have dart:∀ {d:Int},d∈q.darts→stand turn d=d:=fun {d} hd=>by
  unfold stand;rw[if_neg (by have:=dart_pos h.qk hd;omega)]
 have d1:∀ {e:Int},e∈q.e→2*e∈q.darts∧2*e+1∈q.darts:=fun {e} he=>⟨mem_darts.2 (by rwa[show 2*e / 2=e by omega]),mem_darts.2 (by rwa[show (2*e+1) / 2=e by omega])⟩
 constructor
 ·intro k
  refine Gen.leastK (K:=ground g q (restTurn q.e turn) q.v) (Q:=fun x y=>GenR g p r turn same (stand turn x) (stand turn y)) (hH.comap (stand turn)) (fun x hx y hy m=>up ((reg_rest hz h hne hx hy).1 m)) (fun e he=>?_) (fun e he=>?_) hu hv k
  ·obtain⟨a,b⟩:=mem_outE.1 he
   exact⟨(all_ground h.qk).2 (Or.inl (d1 a).1),(all_ground h.qk).2 (Or.inl (d1 a).2)⟩
  obtain⟨a,b⟩:=mem_outE.1 he
  show GenR g p r turn same (stand turn (2*e)) (stand turn (2*e+1))
  rw[dart (d1 a).1,dart (d1 a).2]
  exact Gen.edge (RegR.eqv g p turn same) (mem_outE.2 ⟨h.sube e a,b⟩)
 intro k
 have keyg:∀ {f:Face},f∈walksOf g q (restTurn q.e turn)→f.1∈ground g q (restTurn q.e turn) q.v:=fun {f} hf=>(marks_ground h.qe h.turns hf).2 _ (key_mark h.qe h.turns hf).1
 have join:∀ {f x:Face},f∈walksOf g q (restTurn q.e turn)→x∈walksOf g q (restTurn q.e turn)→GenR g p q turn same (place turn f) (place turn x)→GenR g q r (restTurn q.e turn) (restSame g p q turn same) f.1 x.1:=fun {f x} hf hx m=>by
  rw[place_stand h.qe h.turns hf,place_stand h.qe h.turns hx] at m
  exact Gen.base ((reg_rest hz h hne (keyg hf) (keyg hx)).2 m) _
 let Q:Int→Int→Prop:=fun x y=>x=y∨∃ f∈walksOf g q (restTurn q.e turn),∃ f'∈walksOf g q (restTurn q.e turn),GenR g p q turn same x (place turn f)∧GenR g p q turn same y (place turn f')∧GenR g q r (restTurn q.e turn) (restSame g p q turn same) f.1 f'.1
 have hQ:Eqv Q:=by
  refine⟨fun _=>Or.inl rfl,fun {x y} m=>?_,fun {x y z} m n=>?_⟩
  ·rcases m with e | ⟨f,hf,f',hf',m1,m2,m3⟩
   ·exact Or.inl e.symm
   exact Or.inr ⟨f',hf',f,hf,m2,m1,hI.symm m3⟩
  rcases m with e | ⟨f,hf,f',hf',m1,m2,m3⟩
  ·rw[e];exact n
  rcases n with e | ⟨x1,hx1,x2,hx2,n1,n2,n3⟩
  ·rw[←e];exact Or.inr ⟨f,hf,f',hf',m1,m2,m3⟩
  exact Or.inr ⟨f,hf,x2,hx2,m1,n2,hI.trans m3 (hI.trans (join hf' hx1 (hG.trans (hG.symm m2) n1)) n3)⟩
 have hres:Q (stand turn u) (stand turn v):=by
  refine Gen.leastK (K:=ground g p turn p.v) (Q:=Q) hQ (fun x hx y hy m=>?_) (fun e he=>?_) (fun e he=>?_) (stand_mem h hu).1 (stand_mem h hv).1 k
  ·obtain⟨f,hf,m1⟩:=walk_any hz h hqn hx
   exact Or.inr ⟨f,hf,f,hf,m1,hG.trans (hG.symm (Gen.base m _)) m1,hI.refl _⟩
  ·exact edges_in (turn:=turn) h.pk (Stretch.all h.pk) (by rw[edges_all h.pk];exact (mem_outE.1 he).1)
  obtain⟨a,b⟩:=mem_outE.1 he
  have hg2:=edges_in (turn:=turn) h.pk (Stretch.all h.pk) (by rw[edges_all h.pk];exact a)
  by_cases hq:e∈q.e
  ·have e1:=d1 hq
   have near:∀ {d:Int},d∈q.darts→∃ f∈walksOf g q (restTurn q.e turn),GenR g p q turn same d (place turn f)∧GenR g q r (restTurn q.e turn) (restSame g p q turn same) d f.1:=by
    intro d hd
    have hdg:=(all_ground (turn:=restTurn q.e turn) h.qk).2 (Or.inl hd)
    obtain⟨f,hf,hm⟩:=mark_of h.qe h.turns hdg
    have hs:Same (walksIn g (walksOf g q (restTurn q.e turn)) q.v) d f.1:=Or.inr ⟨marks f,(marks_ground h.qe h.turns hf).1,hm,(key_mark h.qe h.turns hf).1⟩
    have:=gen_same hz h hne hs
    rw[dart hd,←place_stand h.qe h.turns hf] at this
    refine⟨f,hf,this,Gen.base ?_ _⟩
    show lof g q (restTurn q.e turn) (restSame g p q turn same) d=lof g q (restTurn q.e turn) (restSame g p q turn same) f.1
    rw[lof_cls hz2 hf hm,lof_cls hz2 hf (key_mark h.qe h.turns hf).1]
   obtain⟨f,hf,m1,m2⟩:=near e1.1
   obtain⟨x,hx,n1,n2⟩:=near e1.2
   exact Or.inr ⟨f,hf,x,hx,m1,n1,hI.trans (hI.symm m2) (hI.trans (Gen.edge (RegR.eqv g q (restTurn q.e turn) (restSame g p q turn same)) (mem_outE.2 ⟨hq,b⟩)) n2)⟩
  obtain⟨f,hf,m1⟩:=walk_any hz h hqn hg2.1
  exact Or.inr ⟨f,hf,f,hf,m1,hG.trans (hG.symm (Gen.edge (RegR.eqv g p turn same) (mem_outE.2 ⟨a,hq⟩))) m1,hI.refl _⟩
 have back:∀ {u:Int},u∈ground g q (restTurn q.e turn) q.v→∀ {f:Face},f∈walksOf g q (restTurn q.e turn)→GenR g p q turn same (stand turn u) (place turn f)→GenR g q r (restTurn q.e turn) (restSame g p q turn same) u f.1:=fun {u} hu {f} hf m=>by
  rw[place_stand h.qe h.turns hf] at m
  exact Gen.base ((reg_rest hz h hne hu (keyg hf)).2 m) _
 rcases hres with e | ⟨f,hf,x,hx,m1,m2,m3⟩
 ·have e2:=congrArg (lnd g turn q.e) e
  rw[lnd_stand h hu,lnd_stand h hv] at e2
  rw[e2];exact hI.refl _
 exact hI.trans (back hu hf m1) (hI.trans m3 (hI.symm (back hv hx m2)))
theorem rest_again (hz:planErr g p turn same=0) (h:Subs g p q turn) (hre:r.err g=0) (hs:∀ e∈r.e,e∈q.e) (hv:∀ v∈r.v,v∈q.v) :
  restTurn r.e (restTurn q.e turn)=restTurn r.e turn∧restSame g q r (restTurn q.e turn) (restSame g p q turn same)=restSame g p r turn same:=by
 obtain⟨h2,h3⟩:=h.again hre hs hv
 have ht:restTurn r.e (restTurn q.e turn)=restTurn r.e turn:=restTurn_twice (fun l hl=>by
  obtain⟨i,hi,rfl⟩:=List.getElem_of_mem hl
  have:=h.to_.nodup (i:Int)
  rwa[show turnAt turn (i:Int)=turn[i] by unfold turnAt;simp[List.getD,hi]] at this) hs
 refine⟨ht,?_⟩
 by_cases hrn:r.v=[]
 ·have hw:=no_walks h3 hrn
  have hw2:=no_walks h2 hrn
  unfold restSame
  rw[hw,hw2]
  rfl
 have hqn:q.v≠[]:=by
  obtain⟨v,hv2⟩:=List.exists_mem_of_ne_nil _ hrn
  exact List.ne_nil_of_mem (hv v hv2)
 have hne:p.v≠[]:=by
  obtain⟨v,hv⟩:=List.exists_mem_of_ne_nil _ hqn
  exact List.ne_nil_of_mem (h.subv v hv)
 have hH:=GenR.eqv (g:=g) (p:=p) (q:=r) (turn:=turn) (same:=same)
 unfold restSame
 rw[ht]
 refine grps_congr fun f hf x hx=>?_
 have hf2:f∈walksOf g r (restTurn r.e (restTurn q.e turn)):=by rw[ht];exact hf
 have hx2:x∈walksOf g r (restTurn r.e (restTurn q.e turn)):=by rw[ht];exact hx
 have a1:=rest_cls (same:=restSame g p q turn same) h2 (f:=f) (x:=x)
 unfold restSame at a1
 rw[a1,rest_cls h3]
 have b1:=gen_twice hz h h2 h3 hqn (place_mem h2 hf2).1 (place_mem h2 hx2).1
 unfold restSame at b1
 rw[b1]
 have key:∀ {f:Face},f∈walksOf g r (restTurn r.e turn)→GenR g p r turn same (stand turn (place (restTurn q.e turn) f)) (place turn f):=by
  intro f hf
  have hf2:f∈walksOf g r (restTurn r.e (restTurn q.e turn)):=by rw[ht];exact hf
  have hg1:=(marks_ground h3.qe h3.turns hf).2 _ (key_mark h3.qe h3.turns hf).1
  have hg2:=(marks_ground h2.qe h2.turns hf2).2 _ (key_mark h2.qe h2.turns hf2).1
  rw[place_stand h3.qe h3.turns hf (restTurn q.e turn),place_stand h3.qe h3.turns hf turn]
  obtain⟨s1,s2⟩:=stand_mem h2 hg2
  obtain⟨t1,t2⟩:=stand_mem h s1
  have hgs:=gen_stand hz h3 hne t1
  have e:lnd g turn r.e (stand turn (stand (restTurn q.e turn) f.1))=f.1:=by
   rcases (all_ground h3.qk).1 hg1 with hd | ⟨v,hv3,e3,e4⟩
   ·have h0:=dart_pos h3.qk hd
    rw[show stand (restTurn q.e turn) f.1=f.1 by unfold stand;rw[if_neg (by omega)],show stand turn f.1=f.1 by unfold stand;rw[if_neg (by omega)]]
    exact lnd_on h3 hd
   have h0:=(h3.qk.vr v hv3).1
   have hvt:vert g (stand turn (stand (restTurn q.e turn) f.1))=v:=by rw[t2,s2,e4,vert_lone h0]
   have hno:=restTurn_nil.1 e3
   rcases (all_ground h.pk).1 t1 with hd | ⟨v2,hv2,e5,e6⟩
   ·have h1:=dart_pos h.pk hd
    rw[vert_dart h.pk hd] at hvt
    have hut:=dart_turn h.pk h.to_ hd
    rw[hvt] at hut
    unfold lnd
    rw[if_neg (by omega),hvt]
    have:(back (turnAt turn v) (stand turn (stand (restTurn q.e turn) f.1))).find? (onE r.e)=none:=by
     rw[List.find?_eq_none]
     intro y hy
     have:=hno y ((mem_back hut).1 hy)
     simp[this]
    rw[this,e4];rfl
   have h1:=(h.pk.vr v2 hv2).1
   rw[e6,vert_lone h1] at hvt
   rw[e6,lnd_key (by omega),hvt,e4]
  rw[e] at hgs
  exact hgs
 exact⟨fun k=>hH.trans (hH.symm (key hf)) (hH.trans k (key hx)),fun k=>hH.trans (key hf) (hH.trans k (hH.symm (key hx)))⟩
end
end Go.Proofs.YtkacjmoamgjfpaaGreat.Plain
namespace Go.Proofs.YtkacjmoamgjfpaaGreat
open Go.RowKit Go.Maps
namespace Plain
end Plain
end Go.Proofs.YtkacjmoamgjfpaaGreat
namespace Go.Proofs.YtkacjmoamgjfpaaGreat.Plain
section
variable {g : Gr} {p q : Pt} {turn same : List (List Int)}
theorem rises_filter {l:List Int} {n:Int} (h:rises l n=true) (f:Int→Bool):rises (l.filter f) n=true:=by
 unfold rises
 rw[List.all_eq_true]
 intro i hi
 have hi:=List.mem_range.1 hi
 have hpw:(l.filter f).Pairwise (·<·):=(rises_pair h).sublist List.filter_sublist
 have hget:∀ j (hj:j<(l.filter f).length),(l.filter f).getD j 0=(l.filter f)[j]:=fun j hj=>by simp[List.getD,hj]
 have hm:(l.filter f).getD i 0∈l:=(List.mem_filter.1 (getD_mem hi)).1
 obtain⟨k,hk,e⟩:=mem_getD hm
 have h1:=rises_at h hk
 rw[e] at h1
 unfold risesAt
 have h2:0<i→(l.filter f).getD (i - 1) 0<(l.filter f).getD i 0:=fun h0=>by
  rw[hget i hi,hget (i - 1) (by omega)]
  exact List.pairwise_iff_getElem.1 hpw (i - 1) i (by omega) hi (by omega)
 by_cases h0:0<i
 ·have:=h2 h0
  simp only[Bool.not_or,Bool.and_eq_true,Bool.not_eq_true',decide_eq_false_iff_not,Bool.and_eq_false_imp,decide_eq_true_eq]
  exact⟨⟨by omega,by omega⟩,fun _=>by omega⟩
 simp only[Bool.not_or,Bool.and_eq_true,Bool.not_eq_true',decide_eq_false_iff_not,Bool.and_eq_false_imp,decide_eq_true_eq]
 exact⟨⟨by omega,by omega⟩,fun k=>absurd k h0⟩
end
end Go.Proofs.YtkacjmoamgjfpaaGreat.Plain
namespace Go.Proofs.YtkacjmoamgjfpaaGreat
open Go.RowKit Go.Maps
theorem sortI_any (v:Value) (l:List Int) (B:Nat) (w:World) (hn:l.length<1000000000) (h:RowAt w B v l) :
  Calls Tryz.prog 78 #[v] w fun e w'=>e=.returned (.tuple #[])∧RowAt w' B v (l.mergeSort fun x y=>decide (x≤y))∧Chg v.ownBlock.toList w w':=by
 obtain⟨ao,c,rfl⟩:=h.shape
 by_cases h0:l=[]
 ·subst h0
  refine (Tryz.slices_Sort_int_none ao c w).mono ?_
  rintro e w' ⟨rfl,rfl⟩
  exact⟨rfl,by rw[List.mergeSort_nil];exact h,Chg.refl _ _⟩
 obtain⟨g,cap,e⟩:=owns_some h.1 (List.length_pos_iff.2 h0)
 cases e
 have hl:(ints l).length=l.length:=by simp[ints]
 have hown:=h.1
 rw[←hl] at hown
 have hH:Go.Sort.Holds (Value.int .i64) w g 0 l.toArray:=sorted_holds hown (by simp[ints])
 have hg:g<w.heap.size:=owns_lt h.1 rfl
 refine (Tryz.slices_Sort_int g 0 _ l w hH hg (by omega)).mono ?_
 rintro e w' ⟨rfl,n,os,rfl⟩
 have hs:(l.mergeSort fun x y=>decide (x≤y)).length=l.length:=(List.mergeSort_perm _ _).length_eq
 have hso:=sorted_owns (enc:=Value.int .i64) (n:=n) (os:=os) (d:=(l.mergeSort fun x y=>decide (x≤y)).toArray) hown (by simp[hs,hl])
 refine⟨rfl,⟨?_,fun x hx=>h.2.1 x ((List.mergeSort_perm _ _).mem_iff.1 hx),by rw[hs];exact h.2.2⟩,?_⟩
 ·rw[hl] at hso
  rw[hs]
  exact hso
 exact sorted_chg (Value.int .i64) w g n os _
namespace Plain
end Plain
end Go.Proofs.YtkacjmoamgjfpaaGreat
