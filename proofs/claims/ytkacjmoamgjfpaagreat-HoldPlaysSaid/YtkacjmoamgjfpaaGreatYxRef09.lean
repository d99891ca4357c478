/- law 09's small; the document's And: contracts. Conditions: a graph, parts, a plan, lists that lie in memory and read so. -/
import Derived.Test.YtkacjmoamgjfpaaGreatYxRestS
namespace Go.Proofs.YtkacjmoamgjfpaaGreat
open Go.RowKit Go.Maps
namespace Plain
def andOf (b a:List Int):List Int:=a.filter fun x=>decide (x∈b)
theorem andOf_snoc (b:List Int) {a:List Int} {k:Nat} (hk:k<a.length):andOf b (a.take (k+1))=if a.getD k 0∈b then andOf b (a.take k)++[a.getD k 0] else andOf b (a.take k):=by
 unfold andOf;rw[take_snoc hk,List.filter_append];by_cases h:a.getD k 0∈b
 ·rw[if_pos h,List.filter_cons_of_pos (by simpa using h)];rfl
 rw[if_neg h,List.filter_cons_of_neg (by simpa using h)];simp
theorem andOf_len (b a:List Int):(andOf b a).length≤a.length:=List.length_filter_le _ _
end Plain
set_option maxRecDepth 100000 in
set_option maxHeartbeats 2000000 in
theorem refAnd_any (va vb:Value) (a b:List Int) (w:World) (hl:a.length<1000000000) (ha:IntsAt w va a) (hb:IntsAt w vb b) :
  Calls Tryz.prog 62 #[va,vb] w fun e w'=>∃ ov,e=.returned ov∧RowAt w' w.heap.size ov (Plain.andOf b a)∧Chg [] w w':=by
 have HA:=lh ha;have HB:=lh hb;obtain⟨ao,ac,rfl,-,-,-⟩:=ha;clear hb
 go_enter Tryz.func62,Tryz.ntmps62
 go_wp2
 go_loopw [5,6] (fun ov c wr=>∃ k:Nat,k≤a.length∧c=.int .i64 k∧RowAt wr w.heap.size ov (Plain.andOf b (a.take k))∧Chg [] w wr) (fun _ c _=>a.length - (intOf c).toNat)
 case atStart=>exact⟨0,Nat.zero_le _,rfl,rowNil' _ _,Chg.refl _ _⟩
 case round =>
  obtain⟨k,hk,rfl,hrow,hc⟩:=hrel;have HROW:=lh hrow;have HC:=lh hc;have HW:=lh (show w.heap.size≤wr.heap.size from hc.size);obtain⟨oo,oc,rfl⟩:=hrow.shape;have hkl:=Nat.le_trans (Plain.andOf_len b (a.take k)) (List.length_take_le k a);clear hrow;by_cases hlt:k<a.length
  ·obtain⟨rb,roff,rfl,rc⟩:=IntsAt.cellAt HA.out hlt
   have rcell:=hc.c rc;have IX:I64 (a.getD k 0):=by obtain⟨_,_,-,h,-,-⟩:=HA.out;exact h _ (Plain.getD_mem hlt)
   have HNX:=lh (Plain.andOf_snoc b hlt);obtain⟨x,hx⟩:∃ x,a.getD k 0=x:=⟨_,rfl⟩;rw[hx] at rcell HNX IX;obtain⟨M,hM⟩:∃ M,Plain.andOf b (a.take k)=M:=⟨_,rfl⟩;rw[hM] at HNX HROW hkl ⊢;have HRC:=lh rcell;clear rc hx hc hM
   go_wp2_with fail
   refine (in_any _ b x _ (HB.out.fresh HC.out)).mono ?_;rintro e w2 ⟨rfl,hc2⟩;have HC2:=lh (HC.out.t hc2);have HROW2:=lh (HROW.out.chg hc2 (by simp));have HW2:=lh (Nat.le_trans HW.out hc2.size);clear rcell;have rcell:=hc2.c HRC.out;clear hc2;by_cases h:x∈b
   ·have HS:=lh (HNX.out.trans (if_pos h))
    rw[decide_eq_true h];have hml:M.length<4294967290:=by omega
    clear h
    go_wp2_with (at_builtin;refine wl_push rfl _ _ rfl (B:=w.heap.size) (v:=.slice oo _ oc) rfl rfl HROW2.out IX HW2.out hml rfl ?_;intro v6 w6 r6 c6 f6;have R6:=lh r6;have C6:=lh c6;clear r6 c6 f6)
    go_roundw
    case rel=>exact⟨k+1,by omega,by go_num,by rw[HS.out];exact R6.out,HC2.out.trans C6.out (fun j hj=>Or.inr (by rw[HROW2.out.foot] at hj;exact (HROW2.out.low j hj).1))⟩
    case measure=>simp[intOf];omega
   have HS:=lh (HNX.out.trans (if_neg h));rw[decide_eq_false h];clear h;go_wp2
   go_roundw
   case rel=>exact⟨k+1,by omega,by go_num,by rw[HS.out];exact HROW2.out,HC2.out⟩
   case measure=>simp[intOf];omega
  have e:k=a.length:=by omega
  subst e;rw[List.take_length] at HROW hkl ⊢;clear hc;go_wp2;go_ret;exact⟨_,rfl,HROW.out,HC.out⟩
end Go.Proofs.YtkacjmoamgjfpaaGreat
namespace Go.Proofs.YtkacjmoamgjfpaaGreat
open Go.RowKit Go.Maps
set_option maxRecDepth 100000 in
set_option maxHeartbeats 4000000 in
theorem refSame8_any (va vb:Value) (t s t' s':List (List Int)) (w:World) (h1:t.length<1000000000) (h2:∀ i,(t.getD i []).length<1000000000) (h3:t'.length<1000000000) (h4:∀ i,(t'.getD i []).length<1000000000) (ha:PlAt w va t s) (hb:PlAt w vb t' s') :
  Calls Tryz.prog 22 #[va,vb] w fun e w'=>e=.returned (.bool (decide (t.map Plain.first=t'.map Plain.first)&&decide (s=s')))∧Chg [] w w':=by
 obtain⟨t1,t2,rfl,ht,hs⟩:=ha;obtain⟨t3,t4,rfl,ht',hs'⟩:=hb;have HT:=lh ht;have HS:=lh hs;have HT':=lh ht';have HS':=lh hs';have H2:=lh h2;have H4:=lh h4;obtain⟨ao,ac,rfl,-,-⟩:=ht;obtain⟨bo,bc,rfl,-,-⟩:=hs;obtain⟨co,cc,rfl,-,-⟩:=ht';obtain⟨fo,fc,rfl,-,-⟩:=hs';obtain⟨b1,b2,hc1⟩:=box_two w #[.slice ao t.length ac,.slice bo s.length bc] #[.slice co t'.length cc,.slice fo s'.length fc] 32 32;have HC1:=lh hc1;have x0:=(cell_of_row _ _ 0 _ _ _ b1).trans (show _=some (Value.slice ao t.length ac) from rfl);have x1:=(cell_of_row _ _ 1 _ _ _ b1).trans (show _=some (Value.slice bo s.length bc) from rfl);have y0:=(cell_of_row _ _ 0 _ _ _ b2).trans (show _=some (Value.slice co t'.length cc) from rfl);have y1:=(cell_of_row _ _ 1 _ _ _ b2).trans (show _=some (Value.slice fo s'.length fc) from rfl);clear h2 h4 b1 b2 hc1
 go_enter Tryz.func22,Tryz.ntmps22
 go_wp2;generalize ((w.alloc (.cells #[.slice ao t.length ac,.slice bo s.length bc] 32)).alloc (.cells #[.slice co t'.length cc,.slice fo s'.length fc] 32))=w2 at *;have hS0:Chg [] w2 w2.drew:=(Chg.refl [] w2).drew;refine wp_region_way (Chg [] w2) [0,1,3,4,7,8,9,10,11,13,14] (Way.line [0,1,3,4,2,5,6,7,8,9,10,11,12,13,14] .done) (by kernel_rfl) (by kernel_rfl) ?_;simp only[Way.line]
 repeat
  first
   | (refine along_off rfl (by rfl) (by rfl) (fun _ _ _ h=>h) hS0 ?_;simp only[Act.put,Z1,Z2,Z3,Z4,Z5,Z6])
   | (refine along_read (v:=?_) rfl (by rfl) (by rfl) (fun _ _ _ h=>h) hS0 (fun w' hS'=>?_) ?_;rotate_left;(focus (have rd0:=hS'.c x0;have rd1:=hS'.c x1;have rd2:=hS'.c y0;have rd3:=hS'.c y1;clear hS';go_simp;try with_reducible rfl));simp only[Act.put,Z1,Z2,Z3,Z4,Z5,Z6])
   | (refine along_skip rfl (by rfl) (by rfl) hS0 ?_;simp only[Act.put,Z1,Z2,Z3,Z4,Z5,Z6])
 refine along_op rfl (by rfl) (by rfl) (fun K hK=>?_);go_simp;refine (refFirsts_any _ t _ h1 H2.out (HT.out.fresh (HC1.out.t hS0))).mono ?_;rintro e w3 ⟨ov,vs,rfl,-,hr,hcx⟩;have hS1:=hS0.t hcx;clear hS0 hcx;have hS0:=hS1;clear hS1;refine hK.out _ _ (fun _=>hS0) ?_;clear hK K
 try simp only[Act.put,Z1,Z2,Z3,Z4,Z5,Z6]
 have HR:=lh hr;have HSA:=lh hS0;clear hr
 repeat
  first
   | (refine along_off rfl (by rfl) (by rfl) (fun _ _ _ h=>h) hS0 ?_;simp only[Act.put,Z1,Z2,Z3,Z4,Z5,Z6])
   | (refine along_read (v:=?_) rfl (by rfl) (by rfl) (fun _ _ _ h=>h) hS0 (fun w' hS'=>?_) ?_;rotate_left;(focus (have rd0:=hS'.c x0;have rd1:=hS'.c x1;have rd2:=hS'.c y0;have rd3:=hS'.c y1;clear hS';go_simp;try with_reducible rfl));simp only[Act.put,Z1,Z2,Z3,Z4,Z5,Z6])
   | (refine along_skip rfl (by rfl) (by rfl) hS0 ?_;simp only[Act.put,Z1,Z2,Z3,Z4,Z5,Z6])
 refine along_op rfl (by rfl) (by rfl) (fun K hK=>?_);go_simp;refine (refFirsts_any _ t' _ h3 H4.out (HT'.out.fresh (HC1.out.t hS0))).mono ?_;rintro e w4 ⟨ov2,vs2,rfl,-,hr2,hcx⟩;have HRA:=lh (HR.out.fresh hcx);have HRB:=lh hr2;have hS1:=hS0.t hcx;clear hS0 hcx hr2;have hS0:=hS1;clear hS1;refine hK.out _ _ (fun _=>hS0) ?_;clear hK K
 try simp only[Act.put,Z1,Z2,Z3,Z4,Z5,Z6]
 refine along_op rfl (by rfl) (by rfl) (fun K hK=>?_);go_simp;refine (refEquals_any _ _ _ _ _ HRA.out HRB.out).mono ?_;rintro e w5 ⟨rfl,hcx⟩;have hS1:=hS0.t hcx;clear hS0 hcx;have hS0:=hS1;clear hS1;refine hK.out _ _ (fun _=>hS0) ?_;clear hK K
 try simp only[Act.put,Z1,Z2,Z3,Z4,Z5,Z6]
 by_cases he:t.map Plain.first=t'.map Plain.first
 ·have HE:=lh he
  rw[decide_eq_true he];clear he
  repeat
   first
    | (refine along_off rfl (by rfl) (by rfl) (fun _ _ _ h=>h) hS0 ?_;simp only[Act.put,Z1,Z2,Z3,Z4,Z5,Z6])
    | (refine along_read (v:=?_) rfl (by rfl) (by rfl) (fun _ _ _ h=>h) hS0 (fun w' hS'=>?_) ?_;rotate_left;(focus (have rd0:=hS'.c x0;have rd1:=hS'.c x1;have rd2:=hS'.c y0;have rd3:=hS'.c y1;clear hS';go_simp;try with_reducible rfl));simp only[Act.put,Z1,Z2,Z3,Z4,Z5,Z6])
    | (refine along_skip rfl (by rfl) (by rfl) hS0 ?_;simp only[Act.put,Z1,Z2,Z3,Z4,Z5,Z6])
  refine along_op rfl (by rfl) (by rfl) (fun K hK=>?_);go_simp;refine (refEquals_any _ _ s s' _ (HS.out.fresh (HC1.out.t hS0)) (HS'.out.fresh (HC1.out.t hS0))).mono ?_;rintro e w6 ⟨rfl,hcx⟩;have hS1:=hS0.t hcx;clear hS0 hcx;have hS0:=hS1;clear hS1;refine hK.out _ _ (fun _=>hS0) ?_;clear hK K
  try simp only[Act.put,Z1,Z2,Z3,Z4,Z5,Z6]
  obtain⟨bb,hbb⟩:∃ bb,decide (s=s')=bb:=⟨_,rfl⟩;have HBB:=lh hbb;rw[hbb];clear hbb
  repeat
   first
    | (refine along_off rfl (by rfl) (by rfl) (fun _ _ _ h=>h) hS0 ?_;simp only[Act.put,Z1,Z2,Z3,Z4,Z5,Z6])
    | (refine along_read (v:=?_) rfl (by rfl) (by rfl) (fun _ _ _ h=>h) hS0 (fun w' hS'=>?_) ?_;rotate_left;(focus (have rd0:=hS'.c x0;have rd1:=hS'.c x1;have rd2:=hS'.c y0;have rd3:=hS'.c y1;clear hS';go_simp;try with_reducible rfl));simp only[Act.put,Z1,Z2,Z3,Z4,Z5,Z6])
    | (refine along_skip rfl (by rfl) (by rfl) hS0 ?_;simp only[Act.put,Z1,Z2,Z3,Z4,Z5,Z6])
  refine along_done ?_;have HCF:=lh (HC1.out.t hS0);clear hS0 x0 x1 y0 y1;go_wp2;go_ret;exact⟨ret_bool (show bb=_ by rw[decide_eq_true HE.out,Bool.true_and,HBB.out]),HCF.out⟩
 have HE:=lh he;rw[decide_eq_false he];clear he
 repeat
  first
   | (refine along_off rfl (by rfl) (by rfl) (fun _ _ _ h=>h) hS0 ?_;simp only[Act.put,Z1,Z2,Z3,Z4,Z5,Z6])
   | (refine along_read (v:=?_) rfl (by rfl) (by rfl) (fun _ _ _ h=>h) hS0 (fun w' hS'=>?_) ?_;rotate_left;(focus (have rd0:=hS'.c x0;have rd1:=hS'.c x1;have rd2:=hS'.c y0;have rd3:=hS'.c y1;clear hS';go_simp;try with_reducible rfl));simp only[Act.put,Z1,Z2,Z3,Z4,Z5,Z6])
   | (refine along_skip rfl (by rfl) (by rfl) hS0 ?_;simp only[Act.put,Z1,Z2,Z3,Z4,Z5,Z6])
 refine along_done ?_;have HCF:=lh (HC1.out.t hS0);clear hS0 x0 x1 y0 y1;go_wp2;go_ret;exact⟨ret_bool (show false=_ by rw[decide_eq_false HE.out,Bool.false_and]),HCF.out⟩
namespace Plain
theorem lst_min (l:List Int):∀ k,∀ i,i<k→l.getD (lst l k) 0≤l.getD i 0
 | 0,i,hi=>by omega
 | k+1,i,hi=>by
  have ih:=lst_min l k;unfold lst;split
  ·rename_i h
   by_cases e:i=k
   ·rw[e];exact Int.le_refl _
   have:=ih i (by omega);omega
  rename_i h;by_cases e:i=k
  ·rw[e];omega
  exact ih i (by omega)
theorem lst_zero {l:List Int} (h:∀ i,i<l.length→l.getD 0 0≤l.getD i 0):∀ k,k≤l.length→lst l k=0
 | 0,_=>rfl
 | k+1,hk=>by
  have ih:=lst_zero h k (by omega);have:=h k (by omega);unfold lst;rw[ih,if_neg (by omega)]
theorem first_begun {l:List Int} (h:∀ k,k<l.length→l.getD 0 0≤l.getD k 0):first l=l:=by
 unfold first;rw[lst_zero h _ (Nat.le_refl _)];simp
theorem first_first (l:List Int):first (first l)=first l:=by
 refine first_begun fun k hk=>?_;have hm:(first l).getD k 0∈l:=(first_perm l).mem_iff.1 (getD_mem hk);obtain⟨i,hi,e⟩:=mem_getD hm;have h0:0<l.length:=by omega
 have hl:=lst_lt h0 l.length (Nat.le_refl _);have e0:(first l).getD 0 0=l.getD (lst l l.length) 0:=by
  unfold first;have hd:0<l.length - lst l l.length:=by omega
  simp[List.getD,List.getElem?_append,hl,hd]
 rw[e0,←e];exact lst_min l l.length i hi
theorem restErr_is {g:Gr} {p q:Pt} {turn same:List (List Int)} (h:restErr g p q turn same=0):planErr g p turn same=0∧q.err g=0∧(∀ v∈q.v,v∈p.v)∧∀ e∈q.e,e∈p.e:=by
 unfold restErr at h;split at h
 ·rename_i hz;exact absurd h hz
 rename_i hz;split at h
 ·rename_i hc
  exact⟨Classical.byContradiction hz,hc.1,subB_iff.1 hc.2.1,subB_iff.1 hc.2.2⟩
 cases h
theorem small4_is {g:Gr} {p:Pt} (h:small4 g p=true):g.e.length≤60∧p.v.length≤60∧p.e.length≤60:=by
 unfold small4 at h;simp only[Bool.and_eq_true] at h;exact⟨of_decide_eq_true h.1.1.1,of_decide_eq_true h.1.1.2,of_decide_eq_true h.1.2⟩
theorem small8_four {g:Gr} {p:Pt} {turn same:List (List Int)} (h:small8 g p turn same=true):small4 g p=true∧∀ i,(turn.getD i []).length≤200:=by
 unfold small8 small6 at h;simp only[Bool.and_eq_true] at h;exact⟨h.1.1.1.1,getD_le (all_le h.1.1.2)⟩
theorem restTurn_row (E:List Int) (turn:List (List Int)) (i:Nat):((restTurn E turn).getD i []).length≤(turn.getD i []).length:=by
 unfold restTurn List.getD;rw[List.getElem?_map];cases turn[i]? with
 | none=>simp
 | some l=>exact Nat.le_trans (Nat.le_of_eq (first_perm _).length_eq) (List.length_filter_le _ _)
end Plain
end Go.Proofs.YtkacjmoamgjfpaaGreat
namespace Go.Proofs.YtkacjmoamgjfpaaGreat
open Go
inductive Wy where
 | done:Wy
 | nil:Wy
 | then_:Nat→Wy→Wy
 | alt:Nat→Wy→Wy→Wy
section
variable {P : Program} {ops : Array Oper} {Q : Exit → Act → World → Prop} {md : Region.Mode} {S : World → Prop} {R : List Nat}
end
end Go.Proofs.YtkacjmoamgjfpaaGreat
namespace Go.Proofs.YtkacjmoamgjfpaaGreat
open Go.RowKit Go.Maps
namespace Plain
end Plain
end Go.Proofs.YtkacjmoamgjfpaaGreat
namespace Go.Proofs.YtkacjmoamgjfpaaGreat.Plain
theorem sideRel_refl (L:Int→Option Int) (p:Pt) (cy:List Int) (x:Int):sideRel L p cy x x:=St.rel_refl _ _
theorem sideRel_symm {L:Int→Option Int} {p:Pt} {cy:List Int} {x y:Int} (h:sideRel L p cy x y):sideRel L p cy y x:=St.rel_symm h
theorem sideRel_trans {L:Int→Option Int} {p:Pt} {cy:List Int} {x y z:Int} (h:sideRel L p cy x y) (k:sideRel L p cy y z):sideRel L p cy x z:=St.rel_trans h k
def oneF (L:Int→Option Int) (p:Pt) (E:List Int):Nat→Int→Int
 | 0,x=>x
 | k+1,x=>if p.e.getD k 0∈E then oneF L p E k x else if oneF L p E k x=oneF L p E k (lf L (2*p.e.getD k 0+1)) then oneF L p E k (lf L (2*p.e.getD k 0)) else oneF L p E k x
theorem oneF_on {L:Int→Option Int} {p:Pt} {E:List Int} {k:Nat} (h:p.e.getD k 0∈E):oneF L p E (k+1)=oneF L p E k:=by
 funext x;exact if_pos h
theorem oneF_off {L:Int→Option Int} {p:Pt} {E:List Int} {k:Nat} (h:p.e.getD k 0 ∉ E) (x:Int):oneF L p E (k+1) x=if oneF L p E k x=oneF L p E k (lf L (2*p.e.getD k 0+1)) then oneF L p E k (lf L (2*p.e.getD k 0)) else oneF L p E k x:=if_neg h
theorem oneF_rel (L:Int→Option Int) (p:Pt) (E:List Int) (k:Nat) (x y:Int):oneF L p E k x=oneF L p E k y↔(sideJoin L p (evens E) k).rel x y:=by
 induction k generalizing x y with
 | zero=>exact St.rel_nil.symm
 | succ k ih =>
  by_cases h:p.e.getD k 0∈E
  ·rw[oneF_on h,sideJoin_on (by rw[evens_half];exact h)];exact ih x y
  rw[sideJoin_off (by rw[evens_half];exact h),St.rel_join (sideJoin_ok L p _ k),oneF_off h,oneF_off h,←ih,←ih,←ih,←ih,←ih];generalize oneF L p E k (lf L (2*p.e.getD k 0+1))=b;generalize oneF L p E k (lf L (2*p.e.getD k 0))=a;generalize oneF L p E k x=u;generalize oneF L p E k y=v;split <;> split <;> omega
theorem oneF_in {L:Int→Option Int} {p:Pt} {E:List Int} {n:Int} (hL:∀ e∈p.e,0≤lf L (2*e)∧lf L (2*e)<n) (k:Nat) (hk:k≤p.e.length) {x:Int} (hx:0≤x∧x<n):0≤oneF L p E k x∧oneF L p E k x<n:=by
 induction k generalizing x with
 | zero=>exact hx
 | succ k ih =>
  by_cases h:p.e.getD k 0∈E
  ·rw[oneF_on h];exact ih (by omega) hx
  rw[oneF_off h];split
  ·exact ih (by omega) (hL _ (getD_mem (by omega)))
  exact ih (by omega) hx
def oneL (L:Int→Option Int) (p:Pt) (E:List Int) (n k:Nat):List Int:=(List.range n).map fun (i:Nat)=>oneF L p E k (i:Int)
def oneM (f:Int→Int) (a b:Int) (n m:Nat):List Int:=(List.range n).map fun (i:Nat)=>if i<m∧f i=b then a else f i
theorem oneL_len (L:Int→Option Int) (p:Pt) (E:List Int) (n k:Nat):(oneL L p E n k).length=n:=by simp[oneL]
theorem oneM_len (f:Int→Int) (a b:Int) (n m:Nat):(oneM f a b n m).length=n:=by simp[oneM]
theorem oneL_at {L:Int→Option Int} {p:Pt} {E:List Int} {n k i:Nat} (h:i<n):(oneL L p E n k).getD i 0=oneF L p E k i:=by simp[oneL,List.getD,h]
theorem oneM_at {f:Int→Int} {a b:Int} {n m i:Nat} (h:i<n):(oneM f a b n m).getD i 0=if i<m∧f i=b then a else f i:=by simp[oneM,List.getD,h]
theorem oneM_zero (L:Int→Option Int) (p:Pt) (E:List Int) (a b:Int) (n k:Nat):oneL L p E n k=oneM (oneF L p E k) a b n 0:=by
 unfold oneL oneM;exact List.map_congr_left fun i _=>by rw[if_neg (by omega)]
theorem oneM_all {L:Int→Option Int} {p:Pt} {E:List Int} {n k:Nat} (h:p.e.getD k 0 ∉ E):oneM (oneF L p E k) (oneF L p E k (lf L (2*p.e.getD k 0))) (oneF L p E k (lf L (2*p.e.getD k 0+1))) n n=oneL L p E n (k+1):=by
 unfold oneL oneM;refine List.map_congr_left fun i hi=>?_;have hi:=List.mem_range.1 hi;rw[oneF_off h];by_cases q:oneF L p E k i=oneF L p E k (lf L (2*p.e.getD k 0+1))
 ·rw[if_pos ⟨hi,q⟩,if_pos q]
 rw[if_neg (fun r=>q r.2),if_neg q]
theorem oneM_on {f:Int→Int} {a b:Int} {n m:Nat} (_h:m<n) (q:f m=b):(oneM f a b n m).set m a=oneM f a b n (m+1):=by
 refine List.ext_getElem (by rw[List.length_set,oneM_len,oneM_len]) fun i h1 h2=>?_;rw[List.getElem_set];simp only[oneM,List.getElem_map,List.getElem_range];by_cases e:m=i
 ·subst e;rw[if_pos rfl,if_pos ⟨by omega,q⟩]
 rw[if_neg e];by_cases r:i<m
 ·simp only[r,show i<m+1 by omega]
 simp only[r,show ¬ i<m+1 by omega]
theorem oneM_off {f:Int→Int} {a b:Int} {n m:Nat} (q:f m≠b):oneM f a b n m=oneM f a b n (m+1):=by
 unfold oneM;refine List.map_congr_left fun i _=>?_;by_cases e:i=m
 ·subst e;rw[if_neg (fun r=>q r.2),if_neg (fun r=>q r.2)]
 by_cases r:i<m
 ·simp only[r,show i<m+1 by omega]
 simp only[r,show ¬ i<m+1 by omega]
theorem oneL_start (L:Int→Option Int) (p:Pt) (E:List Int) (n:Nat):oneL L p E (n+1) 0=oneL L p E n 0++[(n:Int)]:=by
 unfold oneL;rw[List.range_succ,List.map_append];rfl
theorem rel_around {g:Gr} {p:Pt} {turn:List (List Int)} {W:List Face} {ll:List (List Int)} {cy:List Int} (hpe:p.err g=0) (ht:TurnsOk g p turn) (hW:WalksOk g p turn W) {v:Int} (h0:0≤v) (hv:v<g.n) (hn:∀ d∈p.darts,g.tail d=v→d / 2 ∉ cy.map (· / 2)) {d:Int} (hd:d∈p.darts) (hdv:g.tail d=v) :
  sideRel (leftOf ll W) p cy (lf (leftOf ll W) (seat turn v)) (lf (leftOf ll W) d):=by
 have hdt:=(ht.mem v h0 hv d).2 ⟨hd,hdv⟩;have hl:0<(turnAt turn v).length:=List.length_pos_of_mem hdt;have step:∀ x∈turnAt turn v,sideRel (leftOf ll W) p cy (lf (leftOf ll W) (ahead (turnAt turn v) x)) (lf (leftOf ll W) x):=by
  intro x hx;obtain⟨h1,h2⟩:=(ht.mem v h0 hv x).1 hx;have h3:=left_next ll hpe hW (twin_mem h1);have e:nextDart g turn (twin x)=ahead (turnAt turn v) x:=by unfold nextDart before;rw[twin_twin,h2]
  rw[e] at h3;rw[show lf (leftOf ll W) (ahead (turnAt turn v) x)=lf (leftOf ll W) (twin x) by unfold lf;rw[h3.1]];have hr:=sideRel_edge (L:=leftOf ll W) (cy:=cy) (mem_darts.1 h1) (hn x h1 h2);rcases twin_cases x with ⟨e1,e2⟩ | ⟨e1,e2⟩
  ·rw[e2,show lf (leftOf ll W) x=lf (leftOf ll W) (2*(x / 2)) from congrArg (lf (leftOf ll W)) e1]
   exact sideRel_symm hr
  rw[e2,show lf (leftOf ll W) x=lf (leftOf ll W) (2*(x / 2)+1) from congrArg (lf (leftOf ll W)) e1];exact hr
 have all:∀ i,i<(turnAt turn v).length→sideRel (leftOf ll W) p cy (lf (leftOf ll W) ((turnAt turn v).getD i 0)) (lf (leftOf ll W) ((turnAt turn v).getD 0 0)):=by
  intro i
  induction i with
  | zero=>intro _;exact sideRel_refl _ _ _ _
  | succ i ih =>
   intro hi;have hs:=step _ (getD_mem hi);have ha:ahead (turnAt turn v) ((turnAt turn v).getD (i+1) 0)=(turnAt turn v).getD i 0:=by
    unfold ahead;rw[idxOf_at (ht.nodup v) hi,show i+1+(turnAt turn v).length - 1=i+(turnAt turn v).length by omega,Nat.add_mod_right,Nat.mod_eq_of_lt (by omega)]
   rw[ha] at hs;exact sideRel_trans (sideRel_symm hs) (ih (by omega))
 obtain⟨i,hi,rfl⟩:=mem_getD hdt;unfold seat;rw[if_pos hl];exact sideRel_symm (all i hi)
def oneAt (L:Int→Option Int) (p:Pt) (E:List Int) (turn:List (List Int)) (f:Face):Int:=oneF L p E p.e.length (lf L (place turn f))
theorem oneAt_iff {L:Int→Option Int} {p:Pt} {E:List Int} {turn:List (List Int)} {f x:Face}:oneAt L p E turn f=oneAt L p E turn x↔restCls L p E turn f=restCls L p E turn x:=(oneF_rel L p E _ _ _).trans restCls_iff.symm
theorem grps_one (L:Int→Option Int) (p:Pt) (E:List Int) (turn:List (List Int)) (W:List Face):grps (oneAt L p E turn) W=grps (restCls L p E turn) W:=grps_congr fun _ _ _ _=>oneAt_iff
theorem lf_lt {g:Gr} {p:Pt} {turn same:List (List Int)} (hz:planErr g p turn same=0) {d:Int} (hd:(leftOf (regionsOf g p turn same) (walksOf g p turn) d).isSome=true):0≤lf (leftOf (regionsOf g p turn same) (walksOf g p turn)) d∧lf (leftOf (regionsOf g p turn same) (walksOf g p turn)) d<(regionsOf g p turn same).length:=by
 obtain⟨hpe,hto⟩:=turnErr_zero (flatErr_zero (planErr_zero hz).1).1;obtain⟨i,hi,-,e,-⟩:=left_num (parted hz (walks_ok hpe hto)) hd;rw[e];omega
theorem edge_darts {p:Pt} {e:Int} (he:e∈p.e):2*e∈p.darts∧2*e+1∈p.darts:=⟨mem_darts.2 (by rw[show (2*e) / 2=e by omega];exact he),mem_darts.2 (by rw[show (2*e+1) / 2=e by omega];exact he)⟩
theorem around_lt {g:Gr} {p:Pt} {turn same:List (List Int)} (hz:planErr g p turn same=0) {v r:Int} (hv:v∈p.v) (hr:aroundAt g p (leftOf (regionsOf g p turn same) (walksOf g p turn)) v r):0≤r∧r<(regionsOf g p turn same).length:=by
 rcases hr with ⟨d,hd,rfl⟩ | ⟨hd,rfl⟩
 ·exact lf_lt hz (left_dart hz (mem_dartsAt.1 hd).1)
 exact lf_lt hz (left_lone hz hv hd)
theorem rest_case {g:Gr} {p q:Pt} {turn:List (List Int)} (_hpe:p.err g=0) (ht:TurnsOk g p turn) (hqe:q.err g=0) (hsub:∀ e∈q.e,e∈p.e) (hsv:∀ v∈q.v,v∈p.v) {f:Face} (hf:f∈walksOf g q (restTurn q.e turn)) :
  (f.1<0∧f.2=[]∧-2048<f.1∧-1 - f.1∈p.v∧∀ d∈p.darts,g.tail d = -1 - f.1→d / 2 ∉ q.e)∨(0≤f.1∧f.1<2048∧f.1∈p.darts∧place turn f=f.1):=by
 have hq:=restTurn_ok ht hsub;have hW:=walks_ok hqe hq;rcases face_cases hqe hW hf with ⟨h1,h2,h3,-⟩ | ⟨d,l,h1,h2,h3,-,h5,-⟩
 ·left
  refine⟨h3,h1,h2,?_⟩;obtain⟨F,e,hT⟩:=hW.split;rw[e] at hf;rcases List.mem_append.1 hf with k | k
  ·obtain⟨v,hv,rfl⟩:=List.mem_map.1 k
   have hv2:=List.mem_filter.1 hv;have hvq:=List.mem_reverse.1 hv2.1;have hvr:=(Pt.ok_of_err hqe).vr v hvq;rw[show -1 - (-1 - v)=v by omega];refine⟨hsv v hvq,fun d hd hdt hin=>?_⟩;have hm:=(hq.mem v hvr.1 hvr.2 d).2 ⟨mem_darts.2 hin,hdt⟩;have he:turnAt (restTurn q.e turn) v=[]:=by simpa using hv2.2
   rw[he] at hm;cases hm
  obtain⟨l,hl⟩:=hT.key f k;rw[h1] at hl;cases hl
 right;have hd:(d:Int)∈p.darts:=mem_darts.2 (hsub _ (mem_darts.1 h3));exact⟨by omega,by omega,by rw[h1];exact hd,by unfold place;rw[h2,if_neg (by simp)]⟩
theorem around_one {g:Gr} {p:Pt} {turn same:List (List Int)} {E:List Int} (hz:planErr g p turn same=0) {f:Face} (h2:f.2=[]) (hv:-1 - f.1∈p.v) (hn:∀ d∈p.darts,g.tail d = -1 - f.1→d / 2 ∉ E) {r:Int} (hr:aroundAt g p (leftOf (regionsOf g p turn same) (walksOf g p turn)) (-1 - f.1) r) :
  oneF (leftOf (regionsOf g p turn same) (walksOf g p turn)) p E p.e.length r=oneAt (leftOf (regionsOf g p turn same) (walksOf g p turn)) p E turn f:=by
 obtain⟨hpe,hto⟩:=turnErr_zero (flatErr_zero (planErr_zero hz).1).1;have hW:=walks_ok hpe hto;have hvr:=(Pt.ok_of_err hpe).vr _ hv;unfold oneAt;rw[oneF_rel];have hp:place turn f=seat turn (-1 - f.1):=by unfold place;rw[if_pos h2]
 rw[hp];rcases hr with ⟨d,hd,rfl⟩ | ⟨hd,rfl⟩
 ·obtain⟨hd1,hd2⟩:=mem_dartsAt.1 hd
  exact sideRel_symm (rel_around hpe hto hW hvr.1 hvr.2 (fun x hx e=>by rw[evens_half];exact hn x hx e) hd1 hd2)
 have he:seat turn (-1 - f.1) = -1 - (-1 - f.1):=by
  unfold seat;rw[turn_none hto hvr.1 hvr.2 hd,if_neg (by simp)]
 rw[he];exact St.rel_refl _ _
def keepTurn (E:List Int) (turn:List (List Int)):List (List Int):=turn.map (keepOf E)
theorem keep_first (E:List Int) (turn:List (List Int)):(keepTurn E turn).map first=restTurn E turn:=by unfold keepTurn restTurn;rw[List.map_map];rfl
theorem keepTurn_ok {g:Gr} {p q:Pt} {turn:List (List Int)} (ht:TurnsOk g p turn) (hs:∀ e∈q.e,e∈p.e):TurnsOk g q (keepTurn q.e turn):=by
 rw[←turnsOk_first,keep_first];exact restTurn_ok ht hs
theorem keep_walks {g:Gr} {p q:Pt} {turn:List (List Int)} (ht:TurnsOk g p turn) (hqe:q.err g=0) (hs:∀ e∈q.e,e∈p.e):walksOf g q (keepTurn q.e turn)=walksOf g q (restTurn q.e turn):=by
 rw[←keep_first,walks_first hqe (keepTurn_ok ht hs)]
theorem keep_row (E:List Int) (turn:List (List Int)) (v:Int):(turnAt (keepTurn E turn) v).length≤(turnAt turn v).length:=by
 unfold turnAt keepTurn List.getD;rw[List.getElem?_map];cases turn[v.toNat]? with
 | none=>simp
 | some l=>exact keepOf_len E l
def grpsTo (c:Face→Int) (W:List Face) (i:Nat):List (List Int):=((W.take i).filter fun f=>decide (1<(keysAt c W (c f)).length∧(keysAt c W (c f)).getD 0 0=f.1)).map fun f=>keysAt c W (c f)
theorem grpsTo_all (c:Face→Int) (W:List Face):grpsTo c W W.length=grps c W:=by unfold grpsTo grps;rw[List.take_length]
theorem grpsTo_next {c:Face→Int} {W:List Face} {i:Nat} (hi:i<W.length):grpsTo c W (i+1)=if 1<(keysAt c W (c (W.getD i (0,[])))).length∧(keysAt c W (c (W.getD i (0,[])))).getD 0 0=(W.getD i (0,[])).1 then grpsTo c W i++[keysAt c W (c (W.getD i (0,[])))] else grpsTo c W i:=by
 have e:W.take (i+1)=W.take i++[W.getD i (0,[])]:=by rw[List.take_succ_eq_append_getElem hi];simp[List.getD,hi]
 unfold grpsTo;rw[e,List.filter_append];by_cases h:1<(keysAt c W (c (W.getD i (0,[])))).length∧(keysAt c W (c (W.getD i (0,[])))).getD 0 0=(W.getD i (0,[])).1
 ·rw[if_pos h,List.filter_cons_of_pos (by simpa using h),List.map_append];rfl
 rw[if_neg h,List.filter_cons_of_neg (by simpa using h)];simp
theorem grpsTo_len (c:Face→Int) (W:List Face) (i:Nat):(grpsTo c W i).length≤W.length:=by
 unfold grpsTo;rw[List.length_map];exact Nat.le_trans (List.length_filter_le _ _) (List.length_take_le' ..)
def keysTo (c:Face→Int) (W:List Face) (h:Int) (k:Nat):List Int:=keysAt c (W.take k) h
theorem keysTo_all (c:Face→Int) (W:List Face) (h:Int):keysTo c W h W.length=keysAt c W h:=by unfold keysTo;rw[List.take_length]
theorem keysTo_next {c:Face→Int} {W:List Face} {h:Int} {k:Nat} (hk:k<W.length):keysTo c W h (k+1)=if c (W.getD k (0,[]))=h then keysTo c W h k++[(W.getD k (0,[])).1] else keysTo c W h k:=by
 have e:W.take (k+1)=W.take k++[W.getD k (0,[])]:=by rw[List.take_succ_eq_append_getElem hk];simp[List.getD,hk]
 unfold keysTo;rw[e,keysAt_snoc];by_cases q:c (W.getD k (0,[]))=h
 ·rw[if_pos q.symm,if_pos q,q]
 rw[if_neg (fun r=>q r.symm),if_neg q]
theorem keysTo_len (c:Face→Int) (W:List Face) (h:Int) (k:Nat):(keysTo c W h k).length≤k:=by
 unfold keysTo keysAt;rw[List.length_map];exact Nat.le_trans (List.length_filter_le _ _) (List.length_take_le k W)
end Go.Proofs.YtkacjmoamgjfpaaGreat.Plain
