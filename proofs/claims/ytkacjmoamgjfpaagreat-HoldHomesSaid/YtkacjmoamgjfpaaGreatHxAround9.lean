/- ref09.Around (its things), ref10.Vertex, ref10.Edge: contracts. Conditions: a drawing, a cycle that lie in memory and read so, of a bounded size. -/
import Derived.Test.YtkacjmoamgjfpaaGreatHxOr9
import Derived.Test.YtkacjmoamgjfpaaGreatHxSideE
namespace Go.Proofs.YtkacjmoamgjfpaaGreat
open Go.RowKit Go.Maps
namespace Plain
theorem left_marks {g:Gr} {p:Pt} {turn:List (List Int)} {W:List Face} (ll:List (List Int)) (hpe:p.err g=0) (hW:WalksOk g p turn W) {f:Face} (hf:f∈W) {y:Int} (hy:y∈marks f):(leftOf ll W y).isSome=true:=by
 obtain⟨i,hi,hfi⟩:=List.getElem_of_mem hf
 have hp8:=places8_getD hi
 rw[show W.getD i (0,[])=f by simp[List.getD,hi,hfi]] at hp8
 unfold leftOf
 rw[regionAt_hit (places_nodup hpe hW) (by rw[places8_len];exact hi) (by rw[hp8];exact hy)]
 rfl
theorem turn_none {g:Gr} {p:Pt} {turn:List (List Int)} (ht:TurnsOk g p turn) {v:Int} (h0:0≤v) (hv:v<g.n) (h:dartsAt g p v=[]):turnAt turn v=[]:=by
 cases e:turnAt turn v with
 | nil=>rfl
 | cons d l =>
  have:=(ht.mem v h0 hv d).1 (by rw[e];simp)
  have:=mem_dartsAt.2 this
  rw[h] at this
  cases this
theorem left_lone {g:Gr} {p:Pt} {turn same:List (List Int)} (hz:planErr g p turn same=0) {v:Int} (hv:v∈p.v) (h:dartsAt g p v=[]):(leftOf (regionsOf g p turn same) (walksOf g p turn) (-1 - v)).isSome=true:=by
 obtain⟨hpe,hto⟩:=turnErr_zero (flatErr_zero (planErr_zero hz).1).1
 have hW:=walks_ok hpe hto
 have hvr:=(Pt.ok_of_err hpe).vr v hv
 obtain⟨F,e,-⟩:=hW.split
 refine left_marks _ hpe hW (f:=(-1 - v,[])) ?_ (by rw[marks_nil rfl];simp)
 rw[e]
 refine List.mem_append.2 (Or.inl (List.mem_map.2 ⟨v,List.mem_filter.2 ⟨List.mem_reverse.2 hv,?_⟩,rfl⟩))
 rw[turn_none hto hvr.1 hvr.2 h];rfl
end Plain
namespace Plain
def subB (a b:List Int):Bool:=a.all fun x=>decide (x∈b)
theorem subB_no {a b:List Int} {k:Nat} (hk:k<a.length) (h:a.getD k 0 ∉ b):subB a b=false:=by
 unfold subB
 rw[List.all_eq_false]
 exact⟨_,getD_mem hk,by rw[decide_eq_false h];decide⟩
theorem subB_yes {a b:List Int} (h:∀ k,k<a.length→a.getD k 0∈b):subB a b=true:=by
 unfold subB
 rw[List.all_eq_true]
 intro x hx
 obtain⟨i,hi,rfl⟩:=mem_getD hx
 exact decide_eq_true (h i hi)
theorem subB_iff {a b:List Int}:subB a b=true↔∀ x∈a,x∈b:=by simp[subB]
def keepOf (E:List Int) (l:List Int):List Int:=l.filter fun d=>decide (d / 2∈E)
theorem keepOf_snoc (E:List Int) {l:List Int} {k:Nat} (hk:k<l.length):keepOf E (l.take (k+1))=if l.getD k 0 / 2∈E then keepOf E (l.take k)++[l.getD k 0] else keepOf E (l.take k):=by
 unfold keepOf
 rw[take_snoc hk,List.filter_append]
 by_cases h:l.getD k 0 / 2∈E
 ·rw[if_pos h,List.filter_cons_of_pos (by simpa using h)];rfl
 rw[if_neg h,List.filter_cons_of_neg (by simpa using h)];simp
theorem keepOf_len (E l:List Int):(keepOf E l).length≤l.length:=List.length_filter_le _ _
end Plain
set_option maxRecDepth 100000 in
theorem all_in (va vb:Value) (a b:List Int) (w:World) (hl:a.length<4294967296) (hb:b.Pairwise (·<·)) (hbl:b.length<4611686018427387904) (ha:IntsAt w va a) (hbi:IntsAt w vb b) :
  Calls Tryz.prog 71 #[va,vb] w fun e w'=>e=.returned (.bool (Plain.subB a b))∧Chg [] w w':=by
 have HA:=lh ha
 have HB:=lh hbi
 have HBP:=lh hb
 obtain⟨ao,ac,rfl,-,-,-⟩:=ha
 clear hb hbi
 go_enter Tryz.func71,Tryz.ntmps71
 go_wp2
 go_loopw [9] (fun c wr=>∃ k:Nat,k≤a.length∧c=.int .i64 k∧Hid (∀ i,i<k→a.getD i 0∈b)∧Chg [] w wr) (fun c _=>a.length - (intOf c).toNat)
 case atStart=>exact⟨0,Nat.zero_le _,rfl,lh (by omega),Chg.refl _ _⟩
 case round =>
  obtain⟨k,hk,rfl,HN,hc⟩:=hrel
  have HC:=lh hc
  by_cases hlt:k<a.length
  ·obtain⟨rb,roff,rfl,rc⟩:=IntsAt.cellAt HA.out hlt
   have rcell:=hc.cell rc (by simp)
   have HNO:=lh (fun h=>Plain.subB_no (b:=b) hlt h)
   have HNY:=lh (fun (h:a.getD k 0∈b) i (hi:i<k+1)=>(show a.getD i 0∈b from by
    by_cases e:i=k
    ·rw[e];exact h
    exact HN.out i (by omega)))
   obtain⟨x,hx⟩:∃ x,a.getD k 0=x:=⟨_,rfl⟩
   rw[hx] at rcell HNO HNY
   clear rc hx hc
   go_wp2_with fail
   refine (has_any _ b x _ HBP.out hbl (HB.out.fresh HC.out)).mono ?_
   rintro e w2 ⟨rfl,hc2⟩
   have HC2:=lh (HC.out.trans hc2 (by simp))
   clear hc2 rcell
   by_cases h:x∈b
   ·have HI:=lh (HNY.out h)
    rw[decide_eq_true h]
    clear h
    go_wp2
    go_roundw
    case rel=>exact⟨k+1,by omega,by go_num,HI,HC2.out⟩
    case measure=>simp[intOf];omega
   have HI:=lh (HNO.out h)
   rw[decide_eq_false h]
   clear h
   go_wp2
   go_ret
   exact⟨ret_bool HI.out.symm,HC2.out⟩
  have e:k=a.length:=by omega
  subst e
  have HI:=lh (Plain.subB_yes HN.out)
  clear hc
  go_wp2
  go_ret
  exact⟨ret_bool HI.out.symm,HC.out⟩
set_option maxRecDepth 100000 in
theorem within_any (va vb:Value) (q p:Plain.Pt) (w:World) (hqv:q.v.length<4294967296) (hqe:q.e.length<4294967296) (hpv:p.v.length<4294967296) (hpe:p.e.length<4294967296) (rv:p.v.Pairwise (·<·)) (re:p.e.Pairwise (·<·)) (hq:PtAt w va q) (hp:PtAt w vb p) :
  Calls Tryz.prog 25 #[va,vb] w fun e w'=>e=.returned (.bool (Plain.subB q.v p.v&&Plain.subB q.e p.e))∧Chg [] w w':=by
 obtain⟨v1,v2,rfl,h1,h2⟩:=hq
 obtain⟨u1,u2,rfl,k1,k2⟩:=hp
 have H1:=lh h1
 have H2:=lh h2
 have K1:=lh k1
 have K2:=lh k2
 have RV:=lh rv
 have RE:=lh re
 clear h1 h2 k1 k2 rv re
 obtain⟨a0,s0,-⟩:=alloc_at w (.cells #[v1,v2] 29) w.heap.size rfl
 obtain⟨a1,s1,k1⟩:=alloc_at _ (.cells #[u1,u2] 29) _ s0
 have HC1:=lh (((Chg.refl [] w).alloc (.cells #[v1,v2] 29)).alloc (.cells #[u1,u2] 29))
 have hb0:=k1 _ _ a0
 have x0:=(cell_of_row _ _ 0 _ _ _ hb0).trans (show _=some v1 from rfl)
 have x1:=(cell_of_row _ _ 1 _ _ _ hb0).trans (show _=some v2 from rfl)
 have y0:=(cell_of_row _ _ 0 _ _ _ a1).trans (show _=some u1 from rfl)
 have y1:=(cell_of_row _ _ 1 _ _ _ a1).trans (show _=some u2 from rfl)
 clear a0 a1 s0 s1 k1 hb0
 go_enter Tryz.func25,Tryz.ntmps25
 go_wp2_with fail
 obtain⟨w1,hw1⟩:∃ w1,(w.alloc (.cells #[v1,v2] 29)).alloc (.cells #[u1,u2] 29)=w1:=⟨_,rfl⟩
 rw[hw1] at HC1 x0 x1 y0 y1 ⊢
 clear hw1
 refine (all_in _ _ q.v p.v _ hqv RV.out (by omega) (H1.out.fresh HC1.out) (K1.out.fresh HC1.out)).mono ?_
 rintro e w2 ⟨rfl,hc2⟩
 have HC2:=lh (HC1.out.trans hc2 (by simp))
 have x1:=hc2.cell x1 (by simp)
 have y1:=hc2.cell y1 (by simp)
 clear x0 y0 hc2
 cases hb:Plain.subB q.v p.v with
 | false =>
  have HB:=lh hb
  clear hb
  go_wp2
  go_ret
  exact⟨ret_bool (show false=_ by rw[HB.out];rfl),HC2.out⟩
 | true =>
  have HB:=lh hb
  clear hb
  go_wp2_with fail
  refine (all_in _ _ q.e p.e _ hqe RE.out (by omega) (H2.out.fresh HC2.out) (K2.out.fresh HC2.out)).mono ?_
  rintro e w3 ⟨rfl,hc3⟩
  have HC3:=lh (HC2.out.trans hc3 (by simp))
  obtain⟨b,hb⟩:∃ b,Plain.subB q.e p.e=b:=⟨_,rfl⟩
  have HB2:=lh hb
  rw[hb]
  clear x1 y1 hc3 hb
  go_wp2
  go_ret
  exact⟨ret_bool (show b=_ by rw[HB.out,HB2.out];rfl),HC3.out⟩
set_option maxRecDepth 100000 in
theorem keepThis_any (pb n:Nat) (u2:Value) (E:List Int) (w:World) (hn:n<4294967296) (he:E.Pairwise (·<·)) (hel:E.length<4294967296) (h:IntsAt w u2 E) (c1:w.cell? ⟨pb,1,none⟩=some u2) :
  Calls Tryz.prog 89 #[.int .i64 n,.pointer (some ⟨pb,0,none⟩)] w fun e w'=>e=.returned (.bool (decide ((n:Int) / 2∈E)))∧Chg [] w w':=by
 have H:=lh h
 have HE:=lh he
 have q1:Int.tdiv (n:Int) 2=((n / 2:Nat):Int):=by rw[Int.tdiv_eq_ediv_of_nonneg (by omega)];rfl
 obtain⟨ee,hee⟩:∃ ee,n / 2=ee:=⟨_,rfl⟩
 have HD:=lh (show (n:Int) / 2=(ee:Int) by rw[←hee];rfl)
 rw[hee] at q1
 have we:IntKind.i64.wrap (ee:Int)=ee:=IntWalk.i64_in _ (by omega)
 rw[HD.out]
 clear h he hee
 go_enter Tryz.func89,Tryz.ntmps89
 go_wp2_with fail
 refine (has_any _ E ee _ HE.out (by omega) H.out).mono ?_
 rintro e w2 ⟨rfl,hc2⟩
 have HC2:=lh hc2
 clear hc2 c1
 go_wp2
 go_ret
 exact⟨rfl,HC2.out⟩
set_option maxRecDepth 100000 in
set_option maxHeartbeats 2000000 in
theorem keep_any (pb:Nat) (v u2:Value) (E l:List Int) (w:World) (hl:l.length<1000000000) (hd:∀ d∈l,∃ n:Nat,d=n∧n<4294967296) (he:E.Pairwise (·<·)) (hel:E.length<4294967296) (hv:IntsAt w v l) (h:IntsAt w u2 E) (c1:w.cell? ⟨pb,1,none⟩=some u2) :
  Calls Tryz.prog 88 #[v,.func (Fn.func 89) #[] #[.pointer (some ⟨pb,0,none⟩)]] w fun e w'=>∃ ov,e=.returned ov∧RowAt w' w.heap.size ov (Plain.keepOf E l)∧Chg [] w w':=by
 have HV:=lh hv
 have H:=lh h
 have HE:=lh he
 have HD:=lh hd
 have C1:=lh c1
 obtain⟨ao,ac,rfl,-,-,-⟩:=hv
 clear h he hd c1
 have hfn:∀ w:World,(binOp .eql 98 (Value.func (Fn.func 89) #[] #[.pointer (some ⟨pb,0,none⟩)]) Value.nilFunc).run Tryz.prog w=.ok (.bool false) w:=fun w=>by rfl
 go_enter Tryz.func88,Tryz.ntmps88
 go_wp2
 go_loopw [5,12] (fun ov c wr=>∃ k:Nat,k≤l.length∧c=.int .i64 k∧RowAt wr w.heap.size ov (Plain.keepOf E (l.take k))∧Chg [] w wr) (fun _ c _=>l.length - (intOf c).toNat)
 case atStart=>exact⟨0,Nat.zero_le _,rfl,rowNil' _ _,Chg.refl _ _⟩
 case round =>
  obtain⟨k,hk,rfl,hrow,hc⟩:=hrel
  have HROW:=lh hrow
  have HC:=lh hc
  have HB:=lh (show w.heap.size≤wr.heap.size from hc.size)
  obtain⟨oo,oc,rfl⟩:=hrow.shape
  have hkl:=Nat.le_trans (Plain.keepOf_len E (l.take k)) (List.length_take_le k l)
  clear hrow
  by_cases hlt:k<l.length
  ·obtain⟨rb,roff,rfl,rc⟩:=IntsAt.cellAt HV.out hlt
   have rcell:=hc.cell rc (by simp)
   obtain⟨n,e1,e2⟩:=HD.out _ (Plain.getD_mem hlt)
   have HNX:=lh (Plain.keepOf_snoc E hlt)
   rw[e1] at rcell HNX
   have IN:I64 (n:Int):=I64.mk (by omega) (by omega)
   obtain⟨M,hM⟩:∃ M,Plain.keepOf E (l.take k)=M:=⟨_,rfl⟩
   rw[hM] at HNX HROW hkl ⊢
   clear rc e1 hc hM
   go_wp2_with fail
   refine (keepThis_any pb n u2 E _ e2 HE.out hel (H.out.fresh HC.out) (HC.out.cell C1.out (by simp))).mono ?_
   rintro e w2 ⟨rfl,hc2⟩
   have HC2:=lh (HC.out.trans hc2 (by simp))
   have HROW2:=lh (HROW.out.chg hc2 (by simp))
   have HB2:=lh (Nat.le_trans HB.out hc2.size)
   clear hc2 rcell
   by_cases h:(n:Int) / 2∈E
   ·have HS:=lh (HNX.out.trans (if_pos h))
    rw[decide_eq_true h]
    have hml:M.length<4294967290:=by omega
    clear h
    go_wp2_with (at_builtin;refine wl_push rfl _ _ rfl (B:=w.heap.size) (v:=.slice oo _ oc) rfl rfl HROW2.out IN HB2.out hml rfl ?_;intro v6 w6 r6 c6 f6;have R6:=lh r6;have C6:=lh c6;clear r6 c6 f6)
    go_roundw
    case rel=>exact⟨k+1,by omega,by go_num,by rw[HS.out];exact R6.out,HC2.out.trans C6.out (fun j hj=>Or.inr (by rw[HROW2.out.foot] at hj;exact (HROW2.out.low j hj).1))⟩
    case measure=>simp[intOf];omega
   have HS:=lh (HNX.out.trans (if_neg h))
   rw[decide_eq_false h]
   clear h
   go_wp2
   go_roundw
   case rel=>exact⟨k+1,by omega,by go_num,by rw[HS.out];exact HROW2.out,HC2.out⟩
   case measure=>simp[intOf];omega
  have e:k=l.length:=by omega
  subst e
  rw[List.take_length] at HROW hkl ⊢
  clear hc
  go_wp2
  go_ret
  exact⟨_,rfl,HROW.out,HC.out⟩
end Go.Proofs.YtkacjmoamgjfpaaGreat
namespace Go.Proofs.YtkacjmoamgjfpaaGreat
def St.top (s:St) (x:Int):Int:=if x∈s.all then s.head x else x
theorem St.head_mem {s:St} (hs:s.Ok) {x:Int} (h:x∈s.all):s.head x∈s.all:=Plain.getD_mem (hs.hd_lt h)
theorem St.head_iff {s:St} (hs:s.Ok) {x y:Int} (hx:x∈s.all) (hy:y∈s.all):s.head x=s.head y↔s.rel x y:=by
 have h1:=hs.hd_lt hx
 have h2:=hs.hd_lt hy
 have e:s.head x=s.head y↔s.hd (s.all.idxOf x)=s.hd (s.all.idxOf y):=by
  refine⟨fun h=>?_,fun h=>by unfold St.head;rw[h]⟩
  have q1:=Plain.idxOf_at hs.nodup h1
  have q2:=Plain.idxOf_at hs.nodup h2
  unfold St.head at h
  rw[←q1,h,q2]
 rw[e]
 refine⟨fun h=>Or.inr (St.same_iff.2 ⟨hx,hy,h⟩),fun h=>?_⟩
 rcases h with rfl | h
 ·rfl
 exact (St.same_iff.1 h).2.2
theorem St.top_iff {s:St} (hs:s.Ok) (x y:Int):s.top x=s.top y↔s.rel x y:=by
 unfold St.top
 by_cases hx:x∈s.all
 ·by_cases hy:y∈s.all
  ·rw[if_pos hx,if_pos hy];exact St.head_iff hs hx hy
  rw[if_pos hx,if_neg hy]
  refine⟨fun h=>absurd (h ▸ St.head_mem hs hx) hy,fun h=>?_⟩
  rcases h with rfl | h
  ·exact absurd hx hy
  exact absurd (St.same_iff.1 h).2.1 hy
 by_cases hy:y∈s.all
 ·rw[if_neg hx,if_pos hy]
  refine⟨fun h=>absurd (h ▸ St.head_mem hs hy) hx,fun h=>?_⟩
  rcases h with rfl | h
  ·exact absurd hy hx
  exact absurd (St.same_iff.1 h).1 hx
 rw[if_neg hx,if_neg hy]
 refine⟨fun h=>Or.inl h,fun h=>?_⟩
 rcases h with h | h
 ·exact h
 exact absurd (St.same_iff.1 h).1 hx
namespace Plain
def evens (E:List Int):List Int:=E.map (2*·)
theorem evens_half (E:List Int):(evens E).map (· / 2)=E:=by
 unfold evens
 rw[List.map_map]
 conv=>rhs;rw[←List.map_id E]
 exact List.map_congr_left fun x _=>by show (2*x) / 2=x;omega
def restTurn (E:List Int) (turn:List (List Int)):List (List Int):=turn.map fun l=>first (keepOf E l)
theorem restTurn_at (E:List Int) (turn:List (List Int)) (v:Int):turnAt (restTurn E turn) v=first (keepOf E (turnAt turn v)):=by
 unfold turnAt restTurn List.getD
 rw[List.getElem?_map]
 cases turn[v.toNat]? <;> rfl
theorem restTurn_ok {g:Gr} {p q:Pt} {turn:List (List Int)} (ht:TurnsOk g p turn) (hs:∀ e∈q.e,e∈p.e):TurnsOk g q (restTurn q.e turn):=by
 refine⟨by unfold restTurn;rw[List.length_map];exact ht.len,fun v=>?_,fun v h0 hn d=>?_⟩
 ·rw[restTurn_at];exact (first_perm _).nodup_iff.2 ((ht.nodup v).filter _)
 rw[restTurn_at,(first_perm _).mem_iff]
 unfold keepOf
 rw[List.mem_filter,decide_eq_true_iff,ht.mem v h0 hn d,mem_darts,mem_darts]
 exact⟨fun h=>⟨h.2,h.1.2⟩,fun h=>⟨⟨hs _ h.1,h.2⟩,h.1⟩⟩
def joinFrom (L:Int→Option Int) (p:Pt) (E:List Int) (s:St):Nat→St
 | 0=>s
 | k+1=>if p.e.getD k 0∈E then joinFrom L p E s k else (joinFrom L p E s k).join (lf L (2*p.e.getD k 0)) (lf L (2*p.e.getD k 0+1))
theorem joinFrom_on {L:Int→Option Int} {p:Pt} {E:List Int} {s:St} {k:Nat} (h:p.e.getD k 0∈E):joinFrom L p E s (k+1)=joinFrom L p E s k:=if_pos h
theorem joinFrom_off {L:Int→Option Int} {p:Pt} {E:List Int} {s:St} {k:Nat} (h:p.e.getD k 0 ∉ E):joinFrom L p E s (k+1)=(joinFrom L p E s k).join (lf L (2*p.e.getD k 0)) (lf L (2*p.e.getD k 0+1)):=if_neg h
theorem joinFrom_ok {s:St} (hs:s.Ok) (L:Int→Option Int) (p:Pt) (E:List Int) (k:Nat):(joinFrom L p E s k).Ok:=by
 induction k with
 | zero=>exact hs
 | succ k ih =>
  by_cases h:p.e.getD k 0∈E
  ·rw[joinFrom_on h];exact ih
  rw[joinFrom_off h];exact ih.join _ _
theorem joinFrom_len (s:St) (L:Int→Option Int) (p:Pt) (E:List Int) (k:Nat):(joinFrom L p E s k).all.length≤s.all.length+2*k:=by
 induction k with
 | zero=>exact Nat.le_refl _
 | succ k ih =>
  by_cases h:p.e.getD k 0∈E
  ·rw[joinFrom_on h];omega
  rw[joinFrom_off h]
  have:=join_len (joinFrom L p E s k) (lf L (2*p.e.getD k 0)) (lf L (2*p.e.getD k 0+1))
  omega
theorem joinFrom_mem {s:St} {x:Int} (hx:x∈s.all) (L:Int→Option Int) (p:Pt) (E:List Int) (k:Nat):x∈(joinFrom L p E s k).all:=by
 induction k with
 | zero=>exact hx
 | succ k ih =>
  by_cases h:p.e.getD k 0∈E
  ·rw[joinFrom_on h];exact ih
  rw[joinFrom_off h,St.join_eq]
  exact St.mem_put_of _ (St.mem_put_of _ ih)
theorem joinFrom_rel {s:St} (hs:s.Ok) (h0:∀ x y,s.rel x y↔x=y) (L:Int→Option Int) (p:Pt) (E:List Int) (k:Nat) (x y:Int):(joinFrom L p E s k).rel x y↔(sideJoin L p (evens E) k).rel x y:=by
 induction k generalizing x y with
 | zero=>exact (h0 x y).trans St.rel_nil.symm
 | succ k ih =>
  by_cases h:p.e.getD k 0∈E
  ·rw[joinFrom_on h,sideJoin_on (by rw[evens_half];exact h)];exact ih x y
  rw[joinFrom_off h,sideJoin_off (by rw[evens_half];exact h),St.rel_join (joinFrom_ok hs L p E k),St.rel_join (sideJoin_ok L p _ k),ih,ih,ih,ih,ih]
def keysAt (c:Face→Int) (W:List Face) (h:Int):List Int:=(W.filter fun x=>decide (c x=h)).map (·.1)
def grps (c:Face→Int) (W:List Face):List (List Int):=(W.filter fun f=>decide (1<(keysAt c W (c f)).length∧(keysAt c W (c f)).getD 0 0=f.1)).map fun f=>keysAt c W (c f)
theorem keysAt_snoc (c:Face→Int) (W:List Face) (f:Face) (h:Int):keysAt c (W++[f]) h=if h=c f then keysAt c W (c f)++[f.1] else keysAt c W h:=by
 unfold keysAt
 by_cases e:h=c f
 ·rw[if_pos e,e,List.filter_append,List.map_append,List.filter_cons_of_pos (by simp)];rfl
 rw[if_neg e,List.filter_append,List.map_append,List.filter_cons_of_neg (by simpa using fun q=>e q.symm)];simp
theorem keysAt_congr {c d:Face→Int} {W:List Face} {a b:Int} (h:∀ x∈W,c x=a↔d x=b):keysAt c W a=keysAt d W b:=by
 unfold keysAt
 congr 1
 exact List.filter_congr fun x hx=>by simp only[decide_eq_decide];exact h x hx
theorem grps_congr {c d:Face→Int} {W:List Face} (h:∀ x∈W,∀ y∈W,c x=c y↔d x=d y):grps c W=grps d W:=by
 have e:∀ f∈W,keysAt c W (c f)=keysAt d W (d f):=fun f hf=>keysAt_congr fun x hx=>h x hx f hf
 unfold grps
 have e2:(W.filter fun f=>decide (1<(keysAt c W (c f)).length∧(keysAt c W (c f)).getD 0 0=f.1))=W.filter fun f=>decide (1<(keysAt d W (d f)).length∧(keysAt d W (d f)).getD 0 0=f.1) :=
  List.filter_congr fun f hf=>by rw[e f hf]
 rw[e2]
 exact List.map_congr_left fun f hf=>e f (List.mem_filter.1 hf).1
theorem mem_grps {c:Face→Int} {W:List Face} {l:List Int}:l∈grps c W↔∃ h,l=keysAt c W h∧1<l.length:=by
 unfold grps
 rw[List.mem_map]
 constructor
 ·rintro ⟨f,hf,rfl⟩
  have:=(List.mem_filter.1 hf).2
  exact⟨c f,rfl,(of_decide_eq_true this).1⟩
 rintro ⟨h,rfl,hl⟩
 cases e:W.filter fun x=>decide (c x=h) with
 | nil=>unfold keysAt at hl;rw[e] at hl;simp at hl
 | cons f m =>
  have hf:f∈W.filter fun x=>decide (c x=h):=by rw[e];simp
  obtain⟨h1,h2⟩:=List.mem_filter.1 hf
  have h3:c f=h:=of_decide_eq_true h2
  refine⟨f,List.mem_filter.2 ⟨h1,decide_eq_true ?_⟩,by rw[h3]⟩
  rw[h3]
  exact⟨hl,by unfold keysAt;rw[e];rfl⟩
theorem grps_heads {c:Face→Int} {W:List Face} (hk:(W.map (·.1)).Pairwise (·<·)):(grps c W).Pairwise fun a b=>a.getD 0 0<b.getD 0 0:=by
 unfold grps
 rw[List.pairwise_map] at hk ⊢
 refine List.Pairwise.imp_of_mem ?_ (hk.filter _)
 intro f x hf hx h
 have h1:=(of_decide_eq_true (List.mem_filter.1 hf).2).2
 have h2:=(of_decide_eq_true (List.mem_filter.1 hx).2).2
 rw[h1,h2]
 exact h
theorem grps_of {c:Face→Int} {W:List Face} (hk:(W.map (·.1)).Pairwise (·<·)) {C C':List (List Int)} (hn:C.Nodup) (hm:∀ l,l∈C↔∃ h,l=keysAt c W h∧1<l.length) (hp:C'.Perm C) (hs:C'.Pairwise fun a b=>a.getD 0 0≤b.getD 0 0):C'=grps c W:=by
 have hg:=grps_heads (c:=c) hk
 have hgn:(grps c W).Nodup:=hg.imp (fun h e=>by rw[e] at h;omega)
 have hpg:C'.Perm (grps c W):=hp.trans ((List.perm_ext_iff_of_nodup hn hgn).2 fun l=>(hm l).trans mem_grps.symm)
 refine perm_sorted (f:=fun l=>l.getD 0 0) hpg hs (hg.imp (fun h=>by omega)) fun x hx y hy e=>?_
 have hx:=hpg.mem_iff.1 hx
 have hy:=hpg.mem_iff.1 hy
 obtain⟨i,hi,rfl⟩:=List.getElem_of_mem hx
 obtain⟨j,hj,rfl⟩:=List.getElem_of_mem hy
 have hq:=List.pairwise_iff_getElem.1 hg
 rcases Nat.lt_trichotomy i j with q | q | q
 ·have:=hq i j hi hj q;omega
 ·subst q;rfl
 have:=hq j i hj hi q;omega
def place (turn:List (List Int)) (f:Face):Int:=if f.2=[] then seat turn (-1 - f.1) else f.1
def restCls (L:Int→Option Int) (p:Pt) (E:List Int) (turn:List (List Int)) (f:Face):Int:=(sideJoin L p (evens E) p.e.length).top (lf L (place turn f))
theorem restCls_iff {L:Int→Option Int} {p:Pt} {E:List Int} {turn:List (List Int)} {f x:Face}:restCls L p E turn f=restCls L p E turn x↔sideRel L p (evens E) (lf L (place turn f)) (lf L (place turn x)):=St.top_iff (sideJoin_ok L p _ _) _ _
noncomputable def restSame (g:Gr) (p q:Pt) (turn same:List (List Int)):List (List Int):=grps (restCls (leftOf (regionsOf g p turn same) (walksOf g p turn)) p q.e turn) (walksOf g q (restTurn q.e turn))
noncomputable def restErr (g:Gr) (p q:Pt) (turn same:List (List Int)):Int:=if planErr g p turn same≠0 then planErr g p turn same else if q.err g=0∧subB q.v p.v=true∧subB q.e p.e=true then 0 else 4
end Plain
end Go.Proofs.YtkacjmoamgjfpaaGreat
namespace Go.Proofs.YtkacjmoamgjfpaaGreat
open Go.RowKit Go.Maps Go.WideElems
theorem head_keep (pb:Nat) (own:List Nat) (s:St) (x:Int) (w:World) (hx:I64 x) (hin:x∈s.all) (hn:s.all.length<17179869184) (h:SetsObj w pb own s) :
  Calls Tryz.prog 92 #[.pointer (some ⟨pb,0,none⟩),.int .i64 x] w fun e w'=>e=.returned (.tuple #[.int .i64 (s.head x),.bool true])∧∃ own2,SetsObj w' pb own2 s∧Chg own w w'∧∀ j∈own2,j∈own:=by
 go_enter Tryz.func92,Tryz.ntmps92
 go_wp2_with fail
 refine (can_any pb own s x _ hx h).mono ?_
 rintro e w1 ⟨rfl,hc1⟩
 have h1:=h.chg hc1 (by simp)
 have HT:Hid (∀ w',Chg own w1 w'→Chg own w w'):=fun w' k=>(hc1.mono (by simp)).trans k (fun j hj=>Or.inl hj)
 have hi:=List.idxOf_lt_length_iff.2 hin
 have hok:=h1.ok
 obtain⟨mb,tv,uv,up,hat,rfl⟩:=h1
 obtain⟨g,cap,rfl⟩:=owns_some hat.things (by omega)
 have hp:=lh (pos_some hin)
 have hle:=hok.le (s.all.idxOf x) (by rw[←hok.len];exact hi)
 have hhd:s.hd (s.all.idxOf x)<s.all.length:=by omega
 have HH:Hid (s.head x=s.all.getD (s.hd (s.all.idxOf x)) 0):=rfl
 have c0:=hat.c0
 have hm:=hat.map
 have c1:=hat.c1
 have ct:=hat.thing rfl (s.hd (s.all.idxOf x)) hhd
 have HA:=lh hat
 clear hin h hc1 hok hat hle
 generalize s.all.idxOf x=i at *
 generalize hr:s.hd i=r at *
 have HR:=lh hr
 clear hr
 generalize hv:s.all.getD r 0=v at *
 have HV:=lh hv
 clear hv
 have hi64:(r:Int)<17179869184:=by omega
 have hr0:(0:Int)≤(r:Int):=by omega
 have hr1:(r:Int)<(s.all.length:Int):=by omega
 go_wp2_with (at_lookup;refine wp_look_hit _ rfl _ _ rfl hm rfl hx rfl hp ?_)
 go_region_held3 (fun w'=>w'.cell? ⟨pb,1,none⟩=some (.slice (some ⟨g,0,none⟩) s.all.length cap)∧w'.cell? ⟨g,r,none⟩=some (.int .i64 v)) (go_keep)
  (first | (go_at_call 128;refine (root_at pb mb _ uv up s i _ hi (by first | exact HA.out | exact HA.out.drew)).mono ?_;rw[HR.out];rintro e w5 ⟨rfl,up',hat5,hch5⟩;have k1:=hat5.c1;have k2:=hat5.thing rfl r hhd;rw[HV.out] at k2))
 all_goals go_wp2
 go_ret2
 refine⟨by rw[HH.out];rfl,_,⟨mb,_,uv,up',hat5,rfl⟩,HT.out _ ?_,fun _ hj=>hj⟩
 exact ((Chg.refl [] w1).drew.mono (by simp)).trans hch5 (fun j hj=>Or.inl (by simp only[SetsAt.blocks,List.mem_append];exact Or.inr hj))
theorem SMap.low {w w':World} {b n:Nat} {f:Int→List Int} {own:List Nat} (h:SMap w b n f) (hc:Chg own w w') (ho:∀ j∈own,j<b):SMap w' b n f:=by
 obtain⟨D,⟨es,clock,hb,F,hs,rfl,hbb,hlen,hap⟩,hD⟩:=h
 have hk:∀ {v:Value} {zs:List Int},w.ownsInts (b+1) 3 .i64 v zs→w'.ownsInts (b+1) 3 .i64 v zs:=fun {v zs} hi=>⟨owns_chg hi.1 hc (fun c hcb hm=>by have:=(hi.1.lt c hcb).1;have:=ho c hm;omega),hi.2⟩
 have hst:∀ x∈es.toList,∀ z,rowElem (H:=Unit) w (b+1) 3 .i64 x.val=some z→rowElem w' (b+1) 3 .i64 x.val=some z:=fun x hx z hz=>by
  obtain⟨zs,hi,rfl⟩:=rowElem_inv hz
  exact rowElem_mk (hk hi)
 obtain⟨F1,hmap,_⟩:=F.stay hst
 refine⟨_,⟨es,clock,hc.heap hb (fun hm=>by have:=ho b hm;omega),F1,hs,rfl,hbb,fun x hx zs hi=>?_,hap⟩,by rw[hmap];exact hD⟩
 obtain⟨y,hy⟩:=F.reads x hx
 obtain⟨z,hz,_⟩:=rd_val hy
 obtain⟨zs0,ho0,_⟩:=rowElem_inv hz
 rw[hi.unique (hk ho0)]
 exact hlen x hx zs0 ho0
theorem PlanVar.mix {w w':World} {pb B T:Nat} {t s:List (List Int)} {own:List Nat} (h:PlanVar w pb B T t s) (hc:Chg own w w') (ho:∀ j∈own,j≠pb∧(j<B∨∀ cs u r,w.heap[j]?≠some (.cells cs u r))):PlanVar w' pb B T t s:=by
 obtain⟨⟨o1,v1,o2,v2,h1,h2,h3,h4,h5,h6⟩,h7⟩:=h
 have hr:∀ {ov:Value} {vs:List Value} {ll:List (List Int)},RowsOwn w B ov vs ll→RowsOwn w' B ov vs ll:=by
  intro ov vs ll hr
  refine hr.chg hc (fun b hb hm=>?_) (fun k b hk hb hm=>?_)
  ·obtain⟨cs,hh⟩:=owns_kind hr.out hb
   rcases (ho _ hm).2 with q | q
   ·have:=(hr.out.lt b hb).1;omega
   exact q _ _ _ hh
  obtain⟨cs,hh⟩:=owns_kind (hr.rows k hk) hb
  rcases (ho _ hm).2 with q | q
  ·have:=((hr.rows k hk).lt b hb).1;omega
  exact q _ _ _ hh
 exact⟨⟨o1,v1,o2,v2,hc.heap h1 (fun hm=>(ho _ hm).1 rfl),hr h2,hr h3,h4,h5,h6⟩,h7⟩
namespace Plain
theorem joinFrom_small {L:Int→Option Int} {p:Pt} {E:List Int} {s:St} (h0:∀ x∈s.all,0≤x∧x<1000000000) (hL:∀ y,0≤lf L y∧lf L y<1000000000) (k:Nat):∀ x∈(joinFrom L p E s k).all,0≤x∧x<1000000000:=by
 have hput:∀ {t:St} {c:Int},(∀ x∈t.all,0≤x∧x<1000000000)→(0≤c∧c<1000000000)→∀ x∈(t.put c).all,0≤x∧x<1000000000:=by
  intro t c ht hc x hx
  by_cases q:c∈t.all
  ·rw[St.put_in q] at hx;exact ht x hx
  rw[St.put_new q] at hx
  rcases List.mem_append.1 hx with k | k
  ·exact ht x k
  rw[List.mem_singleton.1 k];exact hc
 induction k with
 | zero=>exact h0
 | succ k ih =>
  by_cases h:p.e.getD k 0∈E
  ·rw[joinFrom_on h];exact ih
  rw[joinFrom_off h,St.join_eq]
  exact hput (hput ih (hL _)) (hL _)
theorem rest_face {g:Gr} {p q:Pt} {turn:List (List Int)} {L:Int→Option Int} (hpe:p.err g=0) (ht:TurnsOk g p turn) (hsub:∀ e∈q.e,e∈p.e) (hsv:∀ v∈q.v,v∈p.v) (h1:∀ d∈p.darts,(L d).isSome=true) (h2:∀ v∈p.v,dartsAt g p v=[]→(L (-1 - v)).isSome=true)
  {W:List Face} (hW:WalksOk g q (restTurn q.e turn) W) {f:Face} (hf:f∈W) :
  ∃ z:Int,place turn f=z∧I64 z∧(L z).isSome=true∧I64 f.1∧((f.2=[]∧∃ n:Nat,n<turn.length∧n<2048∧f.1 = -1 - (n:Int)∧((turn.getD n []=[]∧z=f.1)∨(0<(turn.getD n []).length∧z=(turn.getD n []).getD 0 0)))∨(0<f.2.length∧z=f.1)):=by
 obtain⟨F,e,hT⟩:=hW.split
 have hg:=Gr.err_ok (Pt.err_ok hpe).1
 rw[e] at hf
 rcases List.mem_append.1 hf with k | k
 ·obtain⟨v,hv,rfl⟩:=List.mem_map.1 k
  have hv:=hsv v (List.mem_reverse.1 (List.mem_filter.1 hv).1)
  have hr:=(Pt.ok_of_err hpe).vr v hv
  obtain⟨n,rfl⟩:∃ n:Nat,v=n:=⟨v.toNat,by omega⟩
  have hl:=ht.len
  have hta:turnAt turn (n:Int)=turn.getD n []:=rfl
  have hpl:place turn (-1 - (n:Int),[])=seat turn (n:Int):=by unfold place;rw[if_pos rfl];congr 1;show -1 - (-1 - (n:Int))=n;omega
  have i1:I64 (-1 - (n:Int)):=I64.mk (by omega) (by omega)
  by_cases hq:0<(turn.getD n []).length
  ·have hm:=getD_mem hq
   have hd:=(ht.mem n (by omega) hr.2 _).1 (show (turn.getD n []).getD 0 0∈turnAt turn (n:Int) from hm)
   obtain⟨d,e1,-,e3⟩:=Pt.dart_nat hpe hd.1
   refine⟨(turn.getD n []).getD 0 0,?_,by rw[e1];exact I64.mk (by omega) (by omega),h1 _ hd.1,i1,Or.inl ⟨rfl,n,by omega,by omega,rfl,Or.inr ⟨hq,rfl⟩⟩⟩
   rw[hpl]
   unfold seat
   rw[hta,if_pos hq]
  have hnil:turn.getD n []=[]:=List.length_eq_zero_iff.1 (by omega)
  have hda:dartsAt g p (n:Int)=[]:=by
   cases e2:dartsAt g p (n:Int) with
   | nil=>rfl
   | cons d m =>
    have h3:=mem_dartsAt.1 (show d∈dartsAt g p (n:Int) by rw[e2];simp)
    have h4:=(ht.mem n (by omega) hr.2 d).2 h3
    rw[hta,hnil] at h4
    cases h4
  refine⟨-1 - (n:Int),?_,i1,h2 _ hv hda,i1,Or.inl ⟨rfl,n,by omega,by omega,rfl,Or.inl ⟨hnil,rfl⟩⟩⟩
  rw[hpl]
  unfold seat
  rw[hta,if_neg hq]
 obtain⟨l,hl⟩:=hT.key f k
 have hd:f.1∈q.darts:=hT.sub _ (List.mem_flatten.2 ⟨f.2,List.mem_map.2 ⟨f,k,rfl⟩,by rw[hl];simp⟩)
 have hd2:f.1∈p.darts:=mem_darts.2 (hsub _ (mem_darts.1 hd))
 obtain⟨d,e1,-,e3⟩:=Pt.dart_nat hpe hd2
 have i1:I64 f.1:=by rw[e1];exact I64.mk (by omega) (by omega)
 refine⟨f.1,by unfold place;rw[if_neg (by rw[hl];simp)],i1,h1 _ hd2,i1,Or.inr ⟨by rw[hl];simp,rfl⟩⟩
end Plain
end Go.Proofs.YtkacjmoamgjfpaaGreat
namespace Go.Proofs.YtkacjmoamgjfpaaGreat
open Go.RowKit Go.Maps
theorem owns_head {w:World} {B b:Nat} {v:Value} {l:List Int} (h:w.ownsRow B 3 1 v l.length (ints l)) (hl:l≠[]) (hb:v.ownBlock=some b):w.cell? ⟨b,0,none⟩=some (.int .i64 (l.getD 0 0)):=by
 have h0:0<l.length:=List.length_pos_iff.2 hl
 obtain⟨g,cap,rfl⟩:=owns_some h h0
 have e:g=b:=by simpa[Value.ownBlock] using hb
 subst e
 have:=h.cellAt 0 (by simpa using h0)
 rw[this]
 cases l with
 | nil=>exact absurd rfl hl
 | cons x l=>rfl
theorem heads_apart {w:World} {B b:Nat} {v u:Value} {m l:List Int} (h1:w.ownsRow B 3 1 v m.length (ints m)) (h2:w.ownsRow B 3 1 u l.length (ints l)) (hl:l≠[]) (hh:m.getD 0 0≠l.getD 0 0) (hm:m≠[]) (hb:v.ownBlock=some b):u.ownBlock≠some b:=fun e=>by
 have e1:=owns_head h1 hm hb
 have e2:=owns_head h2 hl e
 rw[e1] at e2
 simp at e2
 exact hh e2
theorem run_rowh {w0 w:World} {B:Nat} {ov v:Value} {vs:List Value} {ll:List (List Int)} {l:List Int} (h:RowsOwn w0 B ov vs ll) (hB:B≤w0.heap.size) (hv:RowAt w0 B v l) (hX:∀ k b,k<vs.length→(vs.getD k undef).ownBlock=some b→v.ownBlock≠some b) (hn:vs.length<68719476736)
  (hw:w=w0.alloc (.cells #[v] 27)∨w=(w0.alloc (.cells #[v] 27)).drew) (ty:TypeId) :
  ∃ g cap w',(Builtin.append_ #[30,30] ty #[ov,.slice (some ⟨w0.heap.size,0,none⟩) 1 1]).run Tryz.prog w=.ok (.slice (some ⟨g,0,none⟩) (vs.length+1) cap) w' ∧
   RowsOwn w' B (.slice (some ⟨g,0,none⟩) (vs.length+1) cap) (vs++[v]) (ll++[l])∧Chg ov.ownBlock.toList w0 w'∧(ov.ownBlock=some g∨w0.heap.size≤g):=by
 obtain⟨va,vc,rfl⟩:=hv.shape
 obtain⟨g,cap,w',hr,r2,r3,r4⟩:=run_app elemRow h.out hB (cs:=#[.slice va l.length vc]) rfl (oneSlice _ _ _) hn hw ty
 exact⟨g,cap,w',hr,h.add hv.1 (fun k b hk hb e=>hX k b hk hb e) r2 r3,r3,r4⟩
theorem PlanVar.push1h {w0 w:World} {pb B T:Nat} {t s:List (List Int)} {v:Value} {l:List Int} (h:PlanVar w0 pb B T t s) (hB:B≤w0.heap.size) (hv:RowAt w0 B v l) (hne:l≠[]) (hh:∀ m∈s,m≠[]∧m.getD 0 0≠l.getD 0 0) (hn:s.length<1000000000)
  (hw:w=w0.alloc (.cells #[v] 27)∨w=(w0.alloc (.cells #[v] 27)).drew) {ao:Option Addr} {n c:Nat} (hc0:w0.cell? ⟨pb,1,none⟩=some (.slice ao n c)) (ty:TypeId) :
  ∃ g cap w',(Builtin.append_ #[30,30] ty #[.slice ao n c,.slice (some ⟨w0.heap.size,0,none⟩) 1 1]).run Tryz.prog w=.ok (.slice (some ⟨g,0,none⟩) (n+1) cap) w' ∧
   w'.frozen? ⟨pb,1,none⟩=false∧(∃ u,w'.cell? ⟨pb,1,none⟩=some u)∧PlanVar (w'.setCell ⟨pb,1,none⟩ (.slice (some ⟨g,0,none⟩) (n+1) cap)) pb B w'.heap.size t (s++[l]) ∧
   ∃ own,Chg own w0 (w'.setCell ⟨pb,1,none⟩ (.slice (some ⟨g,0,none⟩) (n+1) cap))∧∀ j∈own,j=pb∨(B≤j∧∃ cs r,w0.heap[j]?=some (.cells cs 27 r)):=by
 obtain⟨⟨o1,v1,o2,v2,h1,h2,h3,h4,h5,h6⟩,h7⟩:=h
 have e0:=(cell_of_row _ _ 1 _ _ _ h1).trans (show _=some o2 from rfl)
 rw[hc0] at e0
 obtain rfl:Value.slice ao n c=o2:=by simpa using e0
 have hnl:n=v2.length:=by
  obtain⟨a1,c1,e⟩:=owns_shape h3.out
  simp only[Value.slice.injEq] at e
  exact e.2.1
 subst hnl
 obtain⟨g,cap,w',hr,r1,r2,r3⟩:=run_rowh h3 hB hv (fun k b hk hb=>heads_apart (h3.rows k hk) hv.1 hne (hh _ (by have:=h3.len;simp[List.getD,show k<s.length by omega])).2 (hh _ (by have:=h3.len;simp[List.getD,show k<s.length by omega])).1 hb) (by have:=h3.len;omega) hw ty
 have hno:pb ∉ (Value.slice ao v2.length c).ownBlock.toList:=fun e=>owns_other h3.out h1 (by decide) (by simpa using e)
 have hp:=r2.heap h1 hno
 have h2':RowsOwn w' B o1 v1 t:=h2.chg r2 (fun b hb e=>by
   rcases h4 with q | q
   ·rw[q] at hb;cases hb
   ·simp at e;exact q (hb.trans e.symm)) (fun k b hk hb e=>by
   rcases owns_two h3.out (h2.rows k hk) (by decide) with q | q
   ·rw[q] at e;simp at e
   simp at e;exact q (e.trans hb.symm))
 have hset:Chg [pb] w' (w'.setCell ⟨pb,1,none⟩ (.slice (some ⟨g,0,none⟩) (v2.length+1) cap)):=(Chg.refl _ _).setCell (Or.inl (by simp)) _
 have keep:∀ {ov:Value} {vs:List Value} {ll:List (List Int)},RowsOwn w' B ov vs ll→RowsOwn (w'.setCell ⟨pb,1,none⟩ (.slice (some ⟨g,0,none⟩) (v2.length+1) cap)) B ov vs ll:=fun hr=>hr.chg hset
  (fun b hb e=>owns_other hr.out hp (by decide) (by rw[hb,List.mem_singleton.1 e])) (fun k b hk hb e=>owns_other (hr.rows k hk) hp (by decide) (by rw[hb,List.mem_singleton.1 e]))
 have hx:=row_below r1
 have hx2:=row_below h2'
 refine⟨g,cap,w',hr,free_at hp 1,⟨_,(cell_of_row _ _ 1 _ _ _ hp).trans rfl⟩,⟨⟨o1,v1,_,_,heap_setCell_same hp 1 _,keep h2',keep r1,?_,hx2,hx⟩,?_⟩,pb :: (Value.slice ao v2.length c).ownBlock.toList,(r2.mono (fun j hj=>Or.inl (by simp[hj]))).trans hset (fun j hj=>Or.inl (by simp at hj;simp[hj])),fun j hj=>?_⟩
 ·cases hq:o1.ownBlock with
  | none=>exact Or.inl rfl
  | some b =>
   right
   intro e
   have e:some b=some g:=e
   rcases r3 with q | q
   ·rcases h4 with r | r
    ·rw[r] at hq;cases hq
    exact r (hq.trans (e.trans q.symm))
   have:=owns_lt h2.out hq
   cases e
   omega
 ·intro m hm
  rw[←List.append_assoc] at hm
  rcases List.mem_append.1 hm with q | q
  ·exact h7 m q
  rw[List.mem_singleton.1 q];exact hv.2
 rcases List.mem_cons.1 hj with q | q
 ·exact Or.inl q
 obtain⟨cs,hh⟩:=owns_kind h3.out (by simpa using q)
 exact Or.inr ⟨(h3.out.lt j (by simpa using q)).1,cs,_,hh⟩
def IntsStay (w w':World):Prop:=∀ (b:Nat) (cs:Array Value) (r:Nat × Nat),w.heap[b]?=some (Obj.cells cs 3 r)→w'.heap[b]?=some (Obj.cells cs 3 r)
theorem IntsStay.trans {a b c:World} (h:IntsStay a b) (k:IntsStay b c):IntsStay a c:=fun j cs r q=>k j cs r (h j cs r q)
theorem IntsStay.chg {w w':World} {own:List Nat} (hc:Chg own w w') (h:∀ j∈own,∀ (cs:Array Value) (r:Nat × Nat),w.heap[j]?≠some (Obj.cells cs 3 r)):IntsStay w w':=fun b cs r q=>hc.heap q (fun hm=>h b hm cs r q)
theorem IntsStay.row {w w':World} {B:Nat} {v:Value} {l:List Int} (h:IntsStay w w') (hr:RowAt w B v l):RowAt w' B v l:=by
 refine⟨⟨hr.1.1,?_⟩,hr.2⟩
 rcases hr.1.2 with q | ⟨g,cap,cur,h1,h2,h3,h4⟩
 ·exact Or.inl q
 exact Or.inr ⟨g,cap,cur,h1,h2,h _ _ _ h3,h4⟩
theorem ranges_at {P:Program} {k:TypeId} {R:Value→Option (DataW Unit × List MemPlace)} {w w':World} {b r n:Nat} {D:DataW Unit} {left:Lit→Bool} {cnt:Nat} {l:List Nat} (h:w.ranges P k R b r n D left cnt) (hc:Chg l w w') (hb:b ∉ l) (hr:r ∉ l):w'.ranges P k R b r n D left cnt:=by
 obtain⟨es,clock,since,seen,c0,h1,F,hs,hD,h2,rest⟩:=h
 exact⟨es,clock,since,seen,c0,hc.heap h1 hb,F,hs,hD,hc.heap h2 hr,rest⟩
theorem ranges_kind {P:Program} {k:TypeId} {R:Value→Option (DataW Unit × List MemPlace)} {w:World} {b r n:Nat} {D:DataW Unit} {left:Lit→Bool} {cnt:Nat} (h:w.ranges P k R b r n D left cnt):(∀ cs u f,w.heap[b]?≠some (Obj.cells cs u f))∧∀ cs u f,w.heap[r]?≠some (Obj.cells cs u f):=by
 obtain⟨es,clock,since,seen,c0,h1,F,hs,hD,h2,rest⟩:=h
 exact⟨fun cs u f q=>(by rw[h1] at q;cases q),fun cs u f q=>(by rw[h2] at q;cases q)⟩
theorem sub_len {α:Type} [DecidableEq α]:∀ {l m:List α},l.Nodup→(∀ x∈l,x∈m)→l.length≤m.length
 | [],_,_,_=>Nat.zero_le _
 | a :: l,m,hn,hs=>by
  have h1:=sub_len (l:=l) (m:=m.erase a) (List.nodup_cons.1 hn).2 (fun x hx=>(List.mem_erase_of_ne (show x≠a from fun e=>(List.nodup_cons.1 hn).1 (by rw[←e];exact hx))).2 (hs x (by simp[hx])))
  rw[List.length_erase_of_mem (hs a (by simp))] at h1
  have:=List.length_pos_of_mem (hs a (by simp))
  rw[List.length_cons]
  omega
namespace Plain
theorem keys_heads {c:Face→Int} {W:List Face} (hk:(W.map (·.1)).Pairwise (·<·)) {a b:Int} (ha:keysAt c W a≠[]) (hb:keysAt c W b≠[]) (h:(keysAt c W a).getD 0 0=(keysAt c W b).getD 0 0):a=b:=by
 have key:∀ {a:Int},keysAt c W a≠[]→∃ f∈W,c f=a∧f.1=(keysAt c W a).getD 0 0:=by
  intro a ha
  unfold keysAt at ha ⊢
  cases e:W.filter fun x=>decide (c x=a) with
  | nil=>rw[e] at ha;exact absurd rfl ha
  | cons f m =>
   have hf:f∈W.filter fun x=>decide (c x=a):=by rw[e];simp
   obtain⟨h1,h2⟩:=List.mem_filter.1 hf
   exact⟨f,h1,of_decide_eq_true h2,rfl⟩
 obtain⟨f,hf,rfl,e1⟩:=key ha
 obtain⟨x,hx,rfl,e2⟩:=key hb
 have e3:f.1=x.1:=by rw[e1,e2,h]
 obtain⟨i,hi,rfl⟩:=List.getElem_of_mem hf
 obtain⟨j,hj,rfl⟩:=List.getElem_of_mem hx
 rw[List.pairwise_map] at hk
 have hq:=List.pairwise_iff_getElem.1 hk
 rcases Nat.lt_trichotomy i j with q | q | q
 ·have:=hq i j hi hj q;omega
 ·subst q;rfl
 have:=hq j i hj hi q;omega
structure Got (c:Face→Int) (W:List Face) (left:Int→Bool) (C:List (List Int)):Prop where
 nodup:C.Nodup
 mem:∀ l,l∈C↔∃ h,I64 h∧left h=false∧l=keysAt c W h∧1<l.length
theorem Got.start {c:Face→Int} {W:List Face} {left:Int→Bool} (h:∀ x,I64 x→left x=false→keysAt c W x=[]):Got c W left [] :=
 ⟨List.nodup_nil,fun l=>⟨fun q=>(by cases q),fun ⟨x,ix,h1,h2,h3⟩=>by rw[h2,h x ix h1] at h3;simp at h3⟩⟩
theorem Got.heads {c:Face→Int} {W:List Face} {left:Int→Bool} {C:List (List Int)} (h:Got c W left C) (hk:(W.map (·.1)).Pairwise (·<·)) {x:Int} (hl:left x=true) (h1:keysAt c W x≠[]):∀ m∈C,m≠[]∧m.getD 0 0≠(keysAt c W x).getD 0 0:=by
 intro m hm
 obtain⟨y,iy,q1,rfl,q3⟩:=(h.mem m).1 hm
 have hne:keysAt c W y≠[]:=by intro e;rw[e] at q3;simp at q3
 refine⟨hne,fun e=>?_⟩
 have:=keys_heads hk hne h1 e
 rw[this,hl] at q1
 cases q1
theorem Got.skip {c:Face→Int} {W:List Face} {left:Int→Bool} {C:List (List Int)} (h:Got c W left C) {x:Int} (h1:¬ 1<(keysAt c W x).length):Got c W (fun z=>left z&&!decide (z=x)) C:=by
 refine⟨h.nodup,fun l=>(h.mem l).trans ⟨fun ⟨y,iy,q1,q2,q3⟩=>⟨y,iy,by rw[q1];rfl,q2,q3⟩,fun ⟨y,iy,q1,q2,q3⟩=>⟨y,iy,?_,q2,q3⟩⟩⟩
 by_cases e:y=x
 ·rw[q2,e] at q3;exact absurd q3 h1
 simpa[e] using q1
theorem Got.more {c:Face→Int} {W:List Face} {left:Int→Bool} {C:List (List Int)} (h:Got c W left C) (hk:(W.map (·.1)).Pairwise (·<·)) {x:Int} (ix:I64 x) (hl:left x=true) (h1:1<(keysAt c W x).length):Got c W (fun z=>left z&&!decide (z=x)) (C++[keysAt c W x]):=by
 have hne:keysAt c W x≠[]:=by intro e;rw[e] at h1;simp at h1
 refine⟨List.nodup_append.2 ⟨h.nodup,by simp,fun m hm l hl2 e=>?_⟩,fun l=>?_⟩
 ·rw[List.mem_singleton.1 hl2] at e
  exact (h.heads hk hl hne m hm).2 (by rw[e])
 rw[List.mem_append,List.mem_singleton,h.mem l]
 constructor
 ·rintro (⟨y,iy,q1,q2,q3⟩ | rfl)
  ·exact⟨y,iy,by rw[q1];rfl,q2,q3⟩
  exact⟨x,ix,by simp,rfl,h1⟩
 rintro ⟨y,iy,q1,q2,q3⟩
 by_cases e:y=x
 ·rw[e] at q2;exact Or.inr q2
 exact Or.inl ⟨y,iy,by simpa[e] using q1,q2,q3⟩
theorem Got.len {c:Face→Int} {W:List Face} {left:Int→Bool} {C:List (List Int)} (h:Got c W left C):C.length≤W.length:=by
 have h1:=sub_len h.nodup (m:=grps c W) fun l hl=>by
  obtain⟨x,-,-,q2,q3⟩:=(h.mem l).1 hl
  exact mem_grps.2 ⟨x,q2,q3⟩
 have h2:(grps c W).length≤W.length:=by unfold grps;rw[List.length_map];exact List.length_filter_le _ _
 omega
end Plain
theorem to2_any (ga oa gb ob n m c c':Nat) (x y:Int) (w:World) (hn:0<n) (hm:0<m) (h1:w.cell? ⟨ga,oa,none⟩=some (.int .i64 x)) (h2:w.cell? ⟨gb,ob,none⟩=some (.int .i64 y)) :
  Calls Tryz.prog 93 #[.slice (some ⟨ga,oa,none⟩) n c,.slice (some ⟨gb,ob,none⟩) m c'] w fun e w'=>e=.returned (.int .i64 (Lib.compareInt x y))∧∃ q,w'=w.drewN q:=by
 have i3:(0:Int)<(n:Int):=by omega
 have i4:(0:Int)<(m:Int):=by omega
 obtain⟨r,hr⟩:∃ r,Lib.compareInt x y=r:=⟨_,rfl⟩
 have HR:=lh hr
 rw[hr]
 clear hr
 go_enter Tryz.func93,Tryz.ntmps93
 go_wp2
 have hS0:(fun w':World=>w'.cell? ⟨ga,oa,none⟩=some (.int .i64 x)∧w'.cell? ⟨gb,ob,none⟩=some (.int .i64 y)) w.drew:=⟨h1,h2⟩
 refine wp_region_way (fun w':World=>w'.cell? ⟨ga,oa,none⟩=some (.int .i64 x)∧w'.cell? ⟨gb,ob,none⟩=some (.int .i64 y)) [0,1,2,3,4,5] (Way.line [0,1,2,3,4,5,6,7] .done) (by kernel_rfl) (by kernel_rfl) ?_
 simp only[Way.line]
 repeat
  first
   | (refine along_off rfl (by rfl) (by rfl) (fun _ _ _ h=>h) hS0 ?_;simp only[Act.put,Z1,Z2,Z3,Z4,Z5,Z6])
   | (refine along_read (v:=?_) rfl (by rfl) (by rfl) (fun _ _ _ h=>h) hS0 (fun w' hS'=>?_) ?_;rotate_left;(focus ((try dsimp only at hS');go_simp;try with_reducible rfl));simp only[Act.put,Z1,Z2,Z3,Z4,Z5,Z6])
   | (refine along_skip rfl (by rfl) (by rfl) hS0 ?_;simp only[Act.put,Z1,Z2,Z3,Z4,Z5,Z6])
 refine along_op rfl (by rfl) (by rfl) (fun K hK=>?_)
 go_simp
 refine (compare_any x y _).mono ?_
 rw[HR.out]
 rintro e w7 ⟨rfl,rfl⟩
 refine hK.out _ _ (fun _=>hS0) ?_
 clear hK K
 try simp only[Act.put,Z1,Z2,Z3,Z4,Z5,Z6]
 refine along_op rfl (by rfl) (by rfl) (fun K hK=>?_)
 go_simp
 refine hK.out _ _ (fun _=>hS0) ?_
 clear hK K
 try simp only[Act.put,Z1,Z2,Z3,Z4,Z5,Z6]
 refine along_done ?_
 go_wp2
 go_ret
 exact⟨rfl,1,rfl⟩
set_option maxHeartbeats 1000000 in
theorem restSort_any (v:Value) (vs:List Value) (ll:List (List Int)) (B:Nat) (w:World) (hn:vs.length<4294967296) (h:RowsOwn w B v vs ll) (hne:∀ l∈ll,l≠[]) :
  Calls Tryz.prog 79 #[v,.func (.func 93) #[] #[]] w fun e w'=>e=.returned (.tuple #[])∧∃ vs' ll',RowsOwn w' B v vs' ll'∧vs'.length=vs.length∧ll'.Perm ll∧ll'.Pairwise (fun a b=>a.getD 0 0≤b.getD 0 0)∧Chg v.ownBlock.toList w w':=by
 by_cases h0:vs.length=0
 ·obtain⟨ao,cap,rfl⟩:=owns_shape h.out
  have hl0:ll=[]:=List.length_eq_zero_iff.1 (by rw[←h.len,h0])
  have hcon:=AnyF.slices_SortFunc_none { Tryz.sortRows with } ao cap (.func (.func 93) #[] #[]) w
  change Calls Tryz.prog 79 _ _ _ at hcon
  rw[h0]
  refine hcon.mono ?_
  rintro e w' ⟨rfl,rfl⟩
  exact⟨rfl,vs,ll,by rw[←h0];exact h,h0,List.Perm.refl _,by rw[hl0];exact List.Pairwise.nil,Chg.refl _ _⟩
 obtain⟨g,cap,rfl⟩:=owns_some h.out (by omega)
 have hrow:∀ k,k<vs.length→w.ownsRow B 3 1 (vs.getD k undef) (ll.getD k []).length (ints (ll.getD k []))∧ll.getD k []≠[]:=fun k hk=>⟨h.rows k hk,hne _ (by have:=h.len;simp[List.getD,show k<ll.length by omega])⟩
 haveI:Inhabited (RowIn w B):=⟨⟨(vs.getD 0 undef,ll.getD 0 []),hrow 0 (by omega)⟩⟩
 obtain⟨dl,hvl,hll⟩:=rows_in vs ll h.len hrow
 obtain⟨d,hd⟩:∃ d:Array (RowIn w B),d=dl.toArray:=⟨_,rfl⟩
 have hv:d.toList.map RowIn.val=vs:=by rw[hd];exact hvl
 have hl:d.toList.map (fun z=>z.1.2)=ll:=by rw[hd];exact hll
 have hds:d.size=vs.length:=by rw[←hv];simp
 have hg:∀ z:RowIn w B,∀ b,z.val.ownBlock=some b→b≠g:=fun z b hb e=>by
  rcases owns_two z.2.1 h.out (by decide) with q | q
  ·rw[show z.1.1.ownBlock=some b from hb] at q;cases q
  exact q (by rw[show z.1.1.ownBlock=some b from hb,e];rfl)
 have hgb:g<w.heap.size:=owns_lt h.out rfl
 have eg:∀ args w,(callFunc 93 args).run Tryz.prog w=.ok (.enter 93 args) w:=enters_of Tryz.func93 (by kernel_rfl) rfl
 have hcmp:CmpLays1 (α:=RowIn w B) Tryz.prog 93 #[] RowIn.val RowIn.cmp g 0 d.size w:=by
  refine CmpReads.lays (fun m os dk _ x y=>?_)
  obtain⟨b1,n1,c1,e1,hn1,hc1⟩:=x.cell (hg x) m os dk
  obtain⟨b2,n2,c2,e2,hn2,hc2⟩:=y.cell (hg y) m os dk
  rw[e1,e2]
  exact to2_any b1 0 b2 0 n1 n2 c1 c2 x.key y.key _ hn1 hn2 hc1 hc2
 have hcon:=Any.slices_SortFunc Tryz.sortRows RowIn.val RowIn.one RowIn.cmp RowIn.swo 93 #[] g 0 cap d w eg hcmp (sorted_holds h.out hv) hgb (by omega)
 change Calls Tryz.prog 79 _ _ _ at hcon
 rw[hds] at hcon
 have hres:∀ d' n os,Go.Sort.PermIn 0 vs.length d d'→Go.Sort.SortedIn (ltOf RowIn.cmp) 0 vs.length d'→∃ vs' ll',RowsOwn (Go.Proofs.sortWorld RowIn.val w g 0 n d' os) B (.slice (some ⟨g,0,none⟩) vs.length cap) vs' ll'∧vs'.length=vs.length∧ll'.Perm ll∧ll'.Pairwise (fun a b=>a.getD 0 0≤b.getD 0 0):=by
  intro d' n os hp hs
  refine RowsOwn.sorted h hv hl ?_ (by rw[hds];exact hs) hg
  obtain⟨p1,-,p3⟩:=hp
  have q1:(d'.extract 0 vs.length)=d':=by rw[←hds,←p1];simp
  have q2:(d.extract 0 vs.length)=d:=by rw[←hds];simp
  rw[q1,q2] at p3
  exact p3
 refine hcon.mono ?_
 rintro e w' ⟨rfl,d',n,os,hp,hs,rfl⟩
 obtain⟨vs',ll',r1,r2,r3,r4⟩:=hres d' n os hp hs
 exact⟨rfl,vs',ll',r1,r2,r3,r4,sorted_chg (fun z:RowIn w B=>z.val) w g n os d'⟩
theorem PlanVar.sorts {w:World} {pb B T:Nat} {t s:List (List Int)} (h:PlanVar w pb B T t s) (hne:∀ l∈s,l≠[]) (hn:s.length<1000000000) {ao:Option Addr} {n c:Nat} (hc:w.cell? ⟨pb,1,none⟩=some (.slice ao n c)) :
  Calls Tryz.prog 79 #[.slice ao n c,.func (.func 93) #[] #[]] w fun e w'=>e=.returned (.tuple #[])∧∃ s',PlanVar w' pb B w'.heap.size t s'∧s'.Perm s∧s'.Pairwise (fun a b=>a.getD 0 0≤b.getD 0 0)∧∃ own,Chg own w w'∧∀ j∈own,B≤j:=by
 obtain⟨⟨o1,v1,o2,v2,h1,h2,h3,h4,h5,h6⟩,h7⟩:=h
 have e0:=(cell_of_row _ _ 1 _ _ _ h1).trans (show _=some o2 from rfl)
 rw[hc] at e0
 obtain rfl:Value.slice ao n c=o2:=by simpa using e0
 refine (restSort_any _ v2 s B w (by have:=h3.len;omega) h3 hne).mono ?_
 rintro e w' ⟨rfl,vs',ll',r1,r2,r3,r4,hch⟩
 have hno:pb ∉ (Value.slice ao n c).ownBlock.toList:=fun e=>owns_other h3.out h1 (by decide) (by simpa using e)
 have hp:=hch.heap h1 hno
 have h2':RowsOwn w' B o1 v1 t:=h2.chg hch (fun b hb e=>by
   rcases h4 with q | q
   ·rw[q] at hb;cases hb
   ·simp at e;exact q (hb.trans e.symm)) (fun k b hk hb e=>by
   rcases owns_two h3.out (h2.rows k hk) (by decide) with q | q
   ·rw[q] at e;simp at e
   simp at e;exact q (e.trans hb.symm))
 refine⟨rfl,ll',⟨⟨o1,v1,_,vs',hp,h2',r1,h4,row_below h2',row_below r1⟩,fun l hl=>?_⟩,r3,r4,_,hch,fun j hj=>(h3.out.lt j (by simpa using hj)).1⟩
 rcases List.mem_append.1 hl with q | q
 ·exact h7 l (List.mem_append.2 (Or.inl q))
 exact h7 l (List.mem_append.2 (Or.inr (r3.mem_iff.1 q)))
end Go.Proofs.YtkacjmoamgjfpaaGreat
