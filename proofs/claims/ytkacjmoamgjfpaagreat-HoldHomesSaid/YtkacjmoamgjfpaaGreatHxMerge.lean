/- graph.merge, And, Or: contracts. Conditions: rising lists, parts that lie in memory and read so. -/
import Derived.Test.YtkacjmoamgjfpaaGreatHxOrL
import Derived.Test.YtkacjmoamgjfpaaGreatHxRef09
namespace Go.Proofs.YtkacjmoamgjfpaaGreat
open Go.RowKit Go.Maps
namespace Plain
def mergeL (one:Bool):List Int→List Int→List Int
 | [],b=>if one then b else []
 | x :: a,[]=>if one then x :: a else []
 | x :: a,y :: b=>if x<y then (if one then x :: mergeL one a (y :: b) else mergeL one a (y :: b)) else if y<x then (if one then y :: mergeL one (x :: a) b else mergeL one (x :: a) b) else x :: mergeL one a b
termination_by a b=>a.length+b.length
theorem mergeL_one:∀ a b:List Int,mergeL true a b=orL a b
 | [],b=>by simp[mergeL,orL]
 | x :: a,[]=>by simp[mergeL,orL]
 | x :: a,y :: b=>by
  rw[mergeL,orL,mergeL_one a (y :: b),mergeL_one (x :: a) b,mergeL_one a b]
  by_cases h:x<y
  ·have e1:x≤y:=by omega
   have e2:¬ x=y:=by omega
   simp[h,e1,e2]
  by_cases h2:y<x
  ·have e1:¬ x≤y:=by omega
   simp[h,h2,e1]
  obtain rfl:x=y:=by omega
  simp
termination_by a b=>a.length+b.length
theorem mem_mergeL_two {z:Int}:∀ {a b:List Int},a.Pairwise (·<·)→b.Pairwise (·<·)→(z∈mergeL false a b↔z∈a∧z∈b)
 | [],b,_,_=>by simp[mergeL]
 | x :: a,[],_,_=>by simp[mergeL]
 | x :: a,y :: b,ha,hb=>by
  have ha1:=List.pairwise_cons.1 ha
  have hb1:=List.pairwise_cons.1 hb
  rw[mergeL]
  by_cases h:x<y
  ·rw[if_pos h,if_neg (by simp),mem_mergeL_two ha1.2 hb]
   constructor
   ·exact fun q=>⟨List.mem_cons_of_mem _ q.1,q.2⟩
   rintro ⟨q1,q2⟩
   refine⟨(List.mem_cons.1 q1).resolve_left fun e=>?_,q2⟩
   rcases List.mem_cons.1 q2 with e2 | e2
   ·omega
   have:=hb1.1 z e2;omega
  by_cases h2:y<x
  ·rw[if_neg h,if_pos h2,if_neg (by simp),mem_mergeL_two ha hb1.2]
   constructor
   ·exact fun q=>⟨q.1,List.mem_cons_of_mem _ q.2⟩
   rintro ⟨q1,q2⟩
   refine⟨q1,(List.mem_cons.1 q2).resolve_left fun e=>?_⟩
   rcases List.mem_cons.1 q1 with e2 | e2
   ·omega
   have:=ha1.1 z e2;omega
  rw[if_neg h,if_neg h2,List.mem_cons,mem_mergeL_two ha1.2 hb1.2]
  have hxy:x=y:=by omega
  subst hxy
  constructor
  ·rintro (q | q)
   ·exact⟨by rw[q];simp,by rw[q];simp⟩
   exact⟨List.mem_cons_of_mem _ q.1,List.mem_cons_of_mem _ q.2⟩
  rintro ⟨q1,q2⟩
  rcases List.mem_cons.1 q1 with e | e
  ·exact Or.inl e
  rcases List.mem_cons.1 q2 with e2 | e2
  ·exact Or.inl e2
  exact Or.inr ⟨e,e2⟩
termination_by a b=>a.length+b.length
theorem mergeL_two_rise:∀ {a b:List Int},a.Pairwise (·<·)→b.Pairwise (·<·)→(mergeL false a b).Pairwise (·<·)
 | [],b,_,_=>by simp[mergeL]
 | x :: a,[],_,_=>by simp[mergeL]
 | x :: a,y :: b,ha,hb=>by
  have ha1:=List.pairwise_cons.1 ha
  have hb1:=List.pairwise_cons.1 hb
  rw[mergeL]
  by_cases h:x<y
  ·rw[if_pos h,if_neg (by simp)];exact mergeL_two_rise ha1.2 hb
  by_cases h2:y<x
  ·rw[if_neg h,if_pos h2,if_neg (by simp)];exact mergeL_two_rise ha hb1.2
  rw[if_neg h,if_neg h2,List.pairwise_cons]
  exact⟨fun z hz=>ha1.1 z ((mem_mergeL_two ha1.2 hb1.2).1 hz).1,mergeL_two_rise ha1.2 hb1.2⟩
termination_by a b=>a.length+b.length
theorem rise_eq:∀ {l m:List Int},l.Pairwise (·<·)→m.Pairwise (·<·)→(∀ x,x∈l↔x∈m)→l=m:=by
 intro l m hl hm h
 have hp:l.Perm m:=(List.perm_ext_iff_of_nodup (hl.imp fun h=>by omega) (hm.imp fun h=>by omega)).2 h
 exact hp.eq_of_pairwise (fun a b _ _ h1 h2=>by omega) (hl.imp fun h=>Int.le_of_lt h) (hm.imp fun h=>Int.le_of_lt h)
theorem mergeL_two {a b:List Int} (ha:a.Pairwise (·<·)) (hb:b.Pairwise (·<·)):mergeL false a b=andOf b a:=by
 refine rise_eq (mergeL_two_rise ha hb) (ha.filter _) fun x=>?_
 rw[mem_mergeL_two ha hb]
 unfold andOf
 rw[List.mem_filter,decide_eq_true_iff]
theorem mergeL_len (one:Bool):∀ a b:List Int,(mergeL one a b).length≤a.length+b.length
 | [],b=>by rw[mergeL];split <;> simp
 | x :: a,[]=>by rw[mergeL];split <;> simp
 | x :: a,y :: b=>by
  have h1:=mergeL_len one a (y :: b)
  have h2:=mergeL_len one (x :: a) b
  have h3:=mergeL_len one a b
  rw[mergeL]
  simp only[List.length_cons] at h1 h2 h3 ⊢
  split
  ·split <;> (try simp only[List.length_cons]) <;> omega
  split
  ·split <;> (try simp only[List.length_cons]) <;> omega
  simp only[List.length_cons];omega
termination_by a b=>a.length+b.length
end Plain
def MRow (w:World) (v:Value) (l:List Int):Prop:=IntsAt w v l∧CapOk v
theorem MRow.fresh {w w':World} {v:Value} {l:List Int} (h:MRow w v l) (hc:Chg [] w w'):MRow w' v l:=⟨h.1.fresh hc,h.2⟩
theorem MRow.cons {w:World} {v:Value} {x:Int} {l:List Int} (h:MRow w v (x :: l)):∃ b off cap,v=.slice (some ⟨b,off,none⟩) (l.length+1) cap∧w.cell? ⟨b,off,none⟩=some (.int .i64 x)∧I64 x∧l.length+1≤cap:=by
 obtain⟨⟨ao,cap,rfl,h1,h2,h3⟩,ao',n',cap',e,h4,h5⟩:=h
 simp only[Value.slice.injEq] at e
 obtain⟨rfl,rfl,rfl⟩:=e
 obtain⟨b,off,rfl,hc⟩:=h3 (by simp)
 exact⟨b,off,cap,rfl,by simpa using hc 0 (by simp),h1 x (by simp),by simpa using h4⟩
theorem MRow.tail {w:World} {b off cap:Nat} {x:Int} {l:List Int} (h:MRow w (.slice (some ⟨b,off,none⟩) (l.length+1) cap) (x :: l)):MRow w (.slice (if cap=1 then some ⟨b,off,none⟩ else some ⟨b,off+1,none⟩) l.length (cap - 1)) l:=by
 obtain⟨⟨ao,cap',e,h1,h2,h3⟩,ao',n',cap2,e2,h4,h5⟩:=h
 simp only[Value.slice.injEq] at e e2
 obtain⟨rfl,-,rfl⟩:=e
 obtain⟨rfl,rfl,rfl⟩:=e2
 obtain⟨b',off',e,hc⟩:=h3 (by simp)
 simp only[Option.some.injEq,Addr.mk.injEq] at e
 obtain⟨rfl,rfl,-⟩:=e
 refine⟨⟨_,_,rfl,fun y hy=>h1 y (List.mem_cons_of_mem _ hy),by simp at h2;omega,fun hne=>?_⟩,_,_,_,rfl,by omega,by omega⟩
 have hl:0<l.length:=List.length_pos_iff.2 hne
 rw[if_neg (by omega)]
 refine⟨b,off+1,rfl,fun i hi=>?_⟩
 have:=hc (i+1) (by simp;omega)
 rw[show off+1+i=off+(i+1) by omega,this]
 simp
namespace Plain
theorem mergeL_nil (one:Bool):mergeL one [] []=[]:=by rw[mergeL];split <;> rfl
theorem mergeL_left (one:Bool) (l:List Int):mergeL one l []=if one then l else []:=by cases l <;> rw[mergeL]
theorem mergeL_right (one:Bool) (l:List Int):mergeL one [] l=if one then l else []:=by rw[mergeL]
theorem mergeL_a1 (x:Int) (l:List Int):mergeL true (x :: l) []=[x]++mergeL true l []:=by rw[mergeL_left,mergeL_left];rfl
theorem mergeL_a2 (x:Int) (l:List Int):mergeL false (x :: l) []=mergeL false l []:=by rw[mergeL_left,mergeL_left];rfl
theorem mergeL_b1 (x:Int) (l:List Int):mergeL true [] (x :: l)=[x]++mergeL true [] l:=by rw[mergeL_right,mergeL_right];rfl
theorem mergeL_b2 (x:Int) (l:List Int):mergeL false [] (x :: l)=mergeL false [] l:=by rw[mergeL_right,mergeL_right];rfl
theorem mergeL_lt1 {x y:Int} (h:x<y) (l m:List Int):mergeL true (x :: l) (y :: m)=[x]++mergeL true l (y :: m):=by rw[mergeL,if_pos h];rfl
theorem mergeL_lt2 {x y:Int} (h:x<y) (l m:List Int):mergeL false (x :: l) (y :: m)=mergeL false l (y :: m):=by rw[mergeL,if_pos h];rfl
theorem mergeL_gt1 {x y:Int} (h:y<x) (l m:List Int):mergeL true (x :: l) (y :: m)=[y]++mergeL true (x :: l) m:=by rw[mergeL,if_neg (by omega),if_pos h];rfl
theorem mergeL_gt2 {x y:Int} (h:y<x) (l m:List Int):mergeL false (x :: l) (y :: m)=mergeL false (x :: l) m:=by rw[mergeL,if_neg (by omega),if_pos h];rfl
theorem mergeL_eq (one:Bool) (x:Int) (l m:List Int):mergeL one (x :: l) (x :: m)=[x]++mergeL one l m:=by rw[mergeL,if_neg (by omega),if_neg (by omega)];rfl
end Plain
def lenV:Value→Nat | .slice _ n _=>n | _=>0
set_option maxRecDepth 100000 in
set_option maxHeartbeats 4000000 in
theorem merge_any (va vb:Value) (a b:List Int) (one:Bool) (w:World) (hla:a.length≤1000000) (hlb:b.length≤1000000) (ha:MRow w va a) (hb:MRow w vb b) :
  Calls Tryz.prog 72 #[va,vb,.int .i64 (if one then 1 else 2)] w fun e w'=>∃ ov,e=.returned ov∧RowAt w' w.heap.size ov (Plain.mergeL one a b)∧Chg [] w w':=by
 obtain⟨need,hneed⟩:∃ need:Int,(if one then 1 else 2)=need:=⟨_,rfl⟩
 have HA:=lh ha
 have HB:=lh hb
 obtain⟨⟨ao,ac,rfl,-⟩,-⟩:=ha
 obtain⟨⟨bo,bc,rfl,-⟩,-⟩:=hb
 rw[hneed]
 have HN:=lh hneed
 clear hneed
 go_enter Tryz.func72,Tryz.ntmps72
 go_wp2
 go_loopw [0,1,7] (fun u v ov wr=>∃ (l m M:List Int),MRow w u l∧MRow w v m∧RowAt wr w.heap.size ov M∧Hid (M++Plain.mergeL one l m=Plain.mergeL one a b)∧Hid (M.length+l.length+m.length≤a.length+b.length)∧Hid (l.length≤1000000∧m.length≤1000000)∧Chg [] w wr) (fun u v _ _=>lenV u+lenV v)
 case atStart=>exact⟨a,b,[],HA.out,HB.out,rowNil' _ _,lh (by simp),lh (by simp),lh ⟨hla,hlb⟩,Chg.refl _ _⟩
 case round =>
  obtain⟨l,m,M,hu,hv,hrow,HM,HL,HLL,hc⟩:=hrel
  have HROW0:=lh hrow
  have HC0:=lh hc
  have HBS0:=lh (show w.heap.size≤wr.heap.size from hc.size)
  obtain⟨oo,oc,rfl⟩:=hrow.shape
  have hml:M.length<4294967290:=by have:=HL.out;omega
  clear hrow
  cases l with
  | nil =>
   have HU:=lh hu
   obtain⟨⟨ao',ac',rfl,-⟩,-⟩:=hu
   cases m with
   | nil =>
    obtain⟨⟨bo',bc',rfl,-⟩,-⟩:=hv
    have HE:=lh (show M=Plain.mergeL one a b by have:=HM.out;rwa[Plain.mergeL_nil,List.append_nil] at this)
    clear hc
    go_wp2
    go_ret
    exact⟨_,rfl,by rw[←HE.out];exact HROW0.out,HC0.out⟩
   | cons y m =>
    obtain⟨bb,boff,bcap,rfl,cb,IY,hbc⟩:=hv.cons
    have HV:=lh hv
    have bcell:=hc.cell cb (by simp)
    have bl:decide (((m.length+1:Nat):Int) > 0)=true:=decide_eq_true (by omega)
    have bz:(((m.length+1:Nat):Int)==0)=false:=by rw[beq_eq_false_iff_ne];omega
    clear cb hv hc
    cases one with
    | false =>
     obtain rfl:need=2:=HN.out.symm
     go_wp2
     have hS0:Chg [] wr wr.drew:=(Chg.refl [] wr).drew
     refine wp_region_way (Chg [] wr) [0,1,2,3,4,5,6,7,8,9,10,11,12,13,14,15,16,17] (Way.line [0,1,2,3,4,5,6,7,8,9,10,11,12,13,14,15,16,17] .done) (by kernel_rfl) (by kernel_rfl) ?_
     simp only[Way.line]
     repeat
      first
       | (refine along_off rfl (by rfl) (by rfl) (fun _ _ _ h=>h) hS0 ?_;simp only[Act.put,Z1,Z2,Z3,Z4,Z5,Z6])
       | (refine along_read (v:=?_) rfl (by rfl) (by rfl) (fun _ _ _ h=>h) hS0 (fun w' hS'=>?_) ?_;rotate_left;(focus (have rd0:=hS'.cell bcell (by simp);clear hS';go_simp;try with_reducible rfl));simp only[Act.put,Z1,Z2,Z3,Z4,Z5,Z6])
       | (refine along_skip rfl (by rfl) (by rfl) hS0 ?_;simp only[Act.put,Z1,Z2,Z3,Z4,Z5,Z6])
     refine along_done ?_
     have HC1:=lh (HC0.out.trans hS0 (by simp))
     have HROW1:=lh (HROW0.out.chg hS0 (by simp))
     have HBS1:=lh (Nat.le_trans HBS0.out hS0.size)
     have bcell:=hS0.cell bcell (by simp)
     clear hS0
     generalize wr.drew=w2 at *
     go_wp2
     have hS0:Chg [] w2 w2.drew:=(Chg.refl [] w2).drew
     refine wp_region_way (Chg [] w2) [0,1,2,3,4,5,6,7,8,9,10,11,12] (Way.line [0,1,2,3,4,5,6,7,8,9,10,11,12] .done) (by kernel_rfl) (by kernel_rfl) ?_
     simp only[Way.line]
     repeat
      first
       | (refine along_off rfl (by rfl) (by rfl) (fun _ _ _ h=>h) hS0 ?_;simp only[Act.put,Z1,Z2,Z3,Z4,Z5,Z6])
       | (refine along_read (v:=?_) rfl (by rfl) (by rfl) (fun _ _ _ h=>h) hS0 (fun w' hS'=>?_) ?_;rotate_left;(focus (have rd0:=hS'.cell bcell (by simp);clear hS';go_simp;try with_reducible rfl));simp only[Act.put,Z1,Z2,Z3,Z4,Z5,Z6])
       | (refine along_skip rfl (by rfl) (by rfl) hS0 ?_;simp only[Act.put,Z1,Z2,Z3,Z4,Z5,Z6])
     refine along_done ?_
     have HC2:=lh (HC1.out.trans hS0 (by simp))
     have HROW2:=lh (HROW1.out.chg hS0 (by simp))
     have HBS2:=lh (Nat.le_trans HBS1.out hS0.size)
     have bcell:=hS0.cell bcell (by simp)
     clear hS0
     generalize w2.drew=w3 at *
     go_wp2
     go_roundw
     case rel=>exact⟨[],m,_,HU.out,HV.out.tail,HROW2.out,lh (by rw[←Plain.mergeL_b2 y];exact HM.out),lh (by have:=HL.out;simp at this ⊢;omega),lh (by have:=HLL.out;simp at this ⊢;omega),HC2.out⟩
     case measure=>simp[lenV]
    | true =>
     obtain rfl:need=1:=HN.out.symm
     go_wp2
     have hS0:Chg [] wr wr.drew:=(Chg.refl [] wr).drew
     refine wp_region_way (Chg [] wr) [0,1,2,3,4,5,6,7,8,9,10,11,12,13,14,15,16,17] (Way.line [0,1,2,3,4,5,6,7,8,9,10,11,12,13,14,15,16,17] .done) (by kernel_rfl) (by kernel_rfl) ?_
     simp only[Way.line]
     repeat
      first
       | (refine along_off rfl (by rfl) (by rfl) (fun _ _ _ h=>h) hS0 ?_;simp only[Act.put,Z1,Z2,Z3,Z4,Z5,Z6])
       | (refine along_read (v:=?_) rfl (by rfl) (by rfl) (fun _ _ _ h=>h) hS0 (fun w' hS'=>?_) ?_;rotate_left;(focus (have rd0:=hS'.cell bcell (by simp);clear hS';go_simp;try with_reducible rfl));simp only[Act.put,Z1,Z2,Z3,Z4,Z5,Z6])
       | (refine along_skip rfl (by rfl) (by rfl) hS0 ?_;simp only[Act.put,Z1,Z2,Z3,Z4,Z5,Z6])
     refine along_done ?_
     have HC1:=lh (HC0.out.trans hS0 (by simp))
     have HROW1:=lh (HROW0.out.chg hS0 (by simp))
     have HBS1:=lh (Nat.le_trans HBS0.out hS0.size)
     have bcell:=hS0.cell bcell (by simp)
     clear hS0
     generalize wr.drew=w2 at *
     go_wp2
     have hS0:Chg [] w2 w2.drew:=(Chg.refl [] w2).drew
     refine wp_region_way (Chg [] w2) [0,1,2,3,4,5,6,7,8,9,10,11,12] (Way.line [0,1,2,3,4,5,6,7,8,9,10,11,12] .done) (by kernel_rfl) (by kernel_rfl) ?_
     simp only[Way.line]
     repeat
      first
       | (refine along_off rfl (by rfl) (by rfl) (fun _ _ _ h=>h) hS0 ?_;simp only[Act.put,Z1,Z2,Z3,Z4,Z5,Z6])
       | (refine along_read (v:=?_) rfl (by rfl) (by rfl) (fun _ _ _ h=>h) hS0 (fun w' hS'=>?_) ?_;rotate_left;(focus (have rd0:=hS'.cell bcell (by simp);clear hS';go_simp;try with_reducible rfl));simp only[Act.put,Z1,Z2,Z3,Z4,Z5,Z6])
       | (refine along_skip rfl (by rfl) (by rfl) hS0 ?_;simp only[Act.put,Z1,Z2,Z3,Z4,Z5,Z6])
     refine along_done ?_
     have HC2:=lh (HC1.out.trans hS0 (by simp))
     have HROW2:=lh (HROW1.out.chg hS0 (by simp))
     have HBS2:=lh (Nat.le_trans HBS1.out hS0.size)
     have bcell:=hS0.cell bcell (by simp)
     clear hS0
     generalize w2.drew=w3 at *
     go_wp2_with (at_builtin;refine wl_push rfl _ _ rfl (B:=w.heap.size) (v:=.slice oo _ oc) rfl rfl HROW2.out IY HBS2.out hml rfl ?_;intro v6 w6 r6 c6 f6;have R6:=lh r6;have C6:=lh c6;clear r6 c6 f6)
     go_roundw
     case rel=>exact⟨[],m,_,HU.out,HV.out.tail,R6.out,lh (by rw[List.append_assoc,←Plain.mergeL_b1];exact HM.out),lh (by have:=HL.out;simp at this ⊢;omega),lh (by have:=HLL.out;simp at this ⊢;omega),HC2.out.trans C6.out (fun j hj=>Or.inr (by rw[HROW2.out.foot] at hj;exact (HROW2.out.low j hj).1))⟩
     case measure=>simp[lenV]
  | cons x l =>
   obtain⟨ab,aoff,acap,rfl,ca,IX,hac⟩:=hu.cons
   have HU:=lh hu
   have acell:=hc.cell ca (by simp)
   have al:decide (((l.length+1:Nat):Int) > 0)=true:=decide_eq_true (by omega)
   have az:(((l.length+1:Nat):Int)==0)=false:=by rw[beq_eq_false_iff_ne];omega
   clear ca hu
   cases m with
   | nil =>
    have HV:=lh hv
    obtain⟨⟨bo',bc',rfl,-⟩,-⟩:=hv
    clear hc
    cases one with
    | false =>
     obtain rfl:need=2:=HN.out.symm
     go_wp2
     have hS0:Chg [] wr wr.drew:=(Chg.refl [] wr).drew
     refine wp_region_way (Chg [] wr) [0,1,2,3,4,5,6,7,8,9,10,11,12,13,14,15,16,17] (Way.line [0,1,2,3,4,5,6,7,8,9,10,11,12,13,14,15,16,17] .done) (by kernel_rfl) (by kernel_rfl) ?_
     simp only[Way.line]
     repeat
      first
       | (refine along_off rfl (by rfl) (by rfl) (fun _ _ _ h=>h) hS0 ?_;simp only[Act.put,Z1,Z2,Z3,Z4,Z5,Z6])
       | (refine along_read (v:=?_) rfl (by rfl) (by rfl) (fun _ _ _ h=>h) hS0 (fun w' hS'=>?_) ?_;rotate_left;(focus (have rd0:=hS'.cell acell (by simp);clear hS';go_simp;try with_reducible rfl));simp only[Act.put,Z1,Z2,Z3,Z4,Z5,Z6])
       | (refine along_skip rfl (by rfl) (by rfl) hS0 ?_;simp only[Act.put,Z1,Z2,Z3,Z4,Z5,Z6])
     refine along_done ?_
     have HC1:=lh (HC0.out.trans hS0 (by simp))
     have HROW1:=lh (HROW0.out.chg hS0 (by simp))
     have HBS1:=lh (Nat.le_trans HBS0.out hS0.size)
     have acell:=hS0.cell acell (by simp)
     clear hS0
     generalize wr.drew=w2 at *
     go_wp2
     go_roundw
     case rel=>exact⟨l,[],_,HU.out.tail,HV.out,HROW1.out,lh (by rw[←Plain.mergeL_a2 x];exact HM.out),lh (by have:=HL.out;simp at this ⊢;omega),lh (by have:=HLL.out;simp at this ⊢;omega),HC1.out⟩
     case measure=>simp[lenV]
    | true =>
     obtain rfl:need=1:=HN.out.symm
     go_wp2
     have hS0:Chg [] wr wr.drew:=(Chg.refl [] wr).drew
     refine wp_region_way (Chg [] wr) [0,1,2,3,4,5,6,7,8,9,10,11,12,13,14,15,16,17] (Way.line [0,1,2,3,4,5,6,7,8,9,10,11,12,13,14,15,16,17] .done) (by kernel_rfl) (by kernel_rfl) ?_
     simp only[Way.line]
     repeat
      first
       | (refine along_off rfl (by rfl) (by rfl) (fun _ _ _ h=>h) hS0 ?_;simp only[Act.put,Z1,Z2,Z3,Z4,Z5,Z6])
       | (refine along_read (v:=?_) rfl (by rfl) (by rfl) (fun _ _ _ h=>h) hS0 (fun w' hS'=>?_) ?_;rotate_left;(focus (have rd0:=hS'.cell acell (by simp);clear hS';go_simp;try with_reducible rfl));simp only[Act.put,Z1,Z2,Z3,Z4,Z5,Z6])
       | (refine along_skip rfl (by rfl) (by rfl) hS0 ?_;simp only[Act.put,Z1,Z2,Z3,Z4,Z5,Z6])
     refine along_done ?_
     have HC1:=lh (HC0.out.trans hS0 (by simp))
     have HROW1:=lh (HROW0.out.chg hS0 (by simp))
     have HBS1:=lh (Nat.le_trans HBS0.out hS0.size)
     have acell:=hS0.cell acell (by simp)
     clear hS0
     generalize wr.drew=w2 at *
     go_wp2_with (at_builtin;refine wl_push rfl _ _ rfl (B:=w.heap.size) (v:=.slice oo _ oc) rfl rfl HROW1.out IX HBS1.out hml rfl ?_;intro v6 w6 r6 c6 f6;have R6:=lh r6;have C6:=lh c6;clear r6 c6 f6)
     go_roundw
     case rel=>exact⟨l,[],_,HU.out.tail,HV.out,R6.out,lh (by rw[List.append_assoc,←Plain.mergeL_a1];exact HM.out),lh (by have:=HL.out;simp at this ⊢;omega),lh (by have:=HLL.out;simp at this ⊢;omega),HC1.out.trans C6.out (fun j hj=>Or.inr (by rw[HROW1.out.foot] at hj;exact (HROW1.out.low j hj).1))⟩
     case measure=>simp[lenV]
   | cons y m =>
    obtain⟨bb,boff,bcap,rfl,cb,IY,hbc⟩:=hv.cons
    have HV:=lh hv
    have bcell:=hc.cell cb (by simp)
    have bl:decide (((m.length+1:Nat):Int) > 0)=true:=decide_eq_true (by omega)
    have bz:(((m.length+1:Nat):Int)==0)=false:=by rw[beq_eq_false_iff_ne];omega
    clear cb hv hc
    by_cases hxy:x<y
    ·have bxy:decide (x<y)=true:=decide_eq_true hxy
     have HXY:=lh hxy
     clear hxy
     cases one with
     | false =>
      obtain rfl:need=2:=HN.out.symm
      go_wp2
      have hS0:Chg [] wr wr.drew:=(Chg.refl [] wr).drew
      refine wp_region_way (Chg [] wr) [0,1,2,3,4,5,6,7,8,9,10,11,12,13,14,15,16,17] (Way.line [0,1,2,3,4,5,6,7,8,9,10,11,12,13,14,15,16,17] .done) (by kernel_rfl) (by kernel_rfl) ?_
      simp only[Way.line]
      repeat
       first
        | (refine along_off rfl (by rfl) (by rfl) (fun _ _ _ h=>h) hS0 ?_;simp only[Act.put,Z1,Z2,Z3,Z4,Z5,Z6])
        | (refine along_read (v:=?_) rfl (by rfl) (by rfl) (fun _ _ _ h=>h) hS0 (fun w' hS'=>?_) ?_;rotate_left;(focus (have rd0:=hS'.cell acell (by simp);have rd1:=hS'.cell bcell (by simp);clear hS';go_simp;try with_reducible rfl));simp only[Act.put,Z1,Z2,Z3,Z4,Z5,Z6])
        | (refine along_skip rfl (by rfl) (by rfl) hS0 ?_;simp only[Act.put,Z1,Z2,Z3,Z4,Z5,Z6])
      refine along_done ?_
      have HC1:=lh (HC0.out.trans hS0 (by simp))
      have HROW1:=lh (HROW0.out.chg hS0 (by simp))
      have HBS1:=lh (Nat.le_trans HBS0.out hS0.size)
      have acell:=hS0.cell acell (by simp)
      have bcell:=hS0.cell bcell (by simp)
      clear hS0
      generalize wr.drew=w2 at *
      go_wp2
      go_roundw
      case rel=>exact⟨l,(y :: m),_,HU.out.tail,HV.out,HROW1.out,lh (by rw[←Plain.mergeL_lt2 HXY.out];exact HM.out),lh (by have:=HL.out;simp at this ⊢;omega),lh (by have:=HLL.out;simp at this ⊢;omega),HC1.out⟩
      case measure=>simp[lenV]
     | true =>
      obtain rfl:need=1:=HN.out.symm
      go_wp2
      have hS0:Chg [] wr wr.drew:=(Chg.refl [] wr).drew
      refine wp_region_way (Chg [] wr) [0,1,2,3,4,5,6,7,8,9,10,11,12,13,14,15,16,17] (Way.line [0,1,2,3,4,5,6,7,8,9,10,11,12,13,14,15,16,17] .done) (by kernel_rfl) (by kernel_rfl) ?_
      simp only[Way.line]
      repeat
       first
        | (refine along_off rfl (by rfl) (by rfl) (fun _ _ _ h=>h) hS0 ?_;simp only[Act.put,Z1,Z2,Z3,Z4,Z5,Z6])
        | (refine along_read (v:=?_) rfl (by rfl) (by rfl) (fun _ _ _ h=>h) hS0 (fun w' hS'=>?_) ?_;rotate_left;(focus (have rd0:=hS'.cell acell (by simp);have rd1:=hS'.cell bcell (by simp);clear hS';go_simp;try with_reducible rfl));simp only[Act.put,Z1,Z2,Z3,Z4,Z5,Z6])
        | (refine along_skip rfl (by rfl) (by rfl) hS0 ?_;simp only[Act.put,Z1,Z2,Z3,Z4,Z5,Z6])
      refine along_done ?_
      have HC1:=lh (HC0.out.trans hS0 (by simp))
      have HROW1:=lh (HROW0.out.chg hS0 (by simp))
      have HBS1:=lh (Nat.le_trans HBS0.out hS0.size)
      have acell:=hS0.cell acell (by simp)
      have bcell:=hS0.cell bcell (by simp)
      clear hS0
      generalize wr.drew=w2 at *
      go_wp2_with (at_builtin;refine wl_push rfl _ _ rfl (B:=w.heap.size) (v:=.slice oo _ oc) rfl rfl HROW1.out IX HBS1.out hml rfl ?_;intro v6 w6 r6 c6 f6;have R6:=lh r6;have C6:=lh c6;clear r6 c6 f6)
      go_roundw
      case rel=>exact⟨l,(y :: m),_,HU.out.tail,HV.out,R6.out,lh (by rw[List.append_assoc,←Plain.mergeL_lt1 HXY.out];exact HM.out),lh (by have:=HL.out;simp at this ⊢;omega),lh (by have:=HLL.out;simp at this ⊢;omega),HC1.out.trans C6.out (fun j hj=>Or.inr (by rw[HROW1.out.foot] at hj;exact (HROW1.out.low j hj).1))⟩
      case measure=>simp[lenV]
    have bxy:decide (x<y)=false:=decide_eq_false hxy
    by_cases hyx:y<x
    ·have byx:decide (y<x)=true:=decide_eq_true hyx
     have HXY:=lh hyx
     clear hxy hyx
     cases one with
     | false =>
      obtain rfl:need=2:=HN.out.symm
      go_wp2
      have hS0:Chg [] wr wr.drew:=(Chg.refl [] wr).drew
      refine wp_region_way (Chg [] wr) [0,1,2,3,4,5,6,7,8,9,10,11,12,13,14,15,16,17] (Way.line [0,1,2,3,4,5,6,7,8,9,10,11,12,13,14,15,16,17] .done) (by kernel_rfl) (by kernel_rfl) ?_
      simp only[Way.line]
      repeat
       first
        | (refine along_off rfl (by rfl) (by rfl) (fun _ _ _ h=>h) hS0 ?_;simp only[Act.put,Z1,Z2,Z3,Z4,Z5,Z6])
        | (refine along_read (v:=?_) rfl (by rfl) (by rfl) (fun _ _ _ h=>h) hS0 (fun w' hS'=>?_) ?_;rotate_left;(focus (have rd0:=hS'.cell acell (by simp);have rd1:=hS'.cell bcell (by simp);clear hS';go_simp;try with_reducible rfl));simp only[Act.put,Z1,Z2,Z3,Z4,Z5,Z6])
        | (refine along_skip rfl (by rfl) (by rfl) hS0 ?_;simp only[Act.put,Z1,Z2,Z3,Z4,Z5,Z6])
      refine along_done ?_
      have HC1:=lh (HC0.out.trans hS0 (by simp))
      have HROW1:=lh (HROW0.out.chg hS0 (by simp))
      have HBS1:=lh (Nat.le_trans HBS0.out hS0.size)
      have acell:=hS0.cell acell (by simp)
      have bcell:=hS0.cell bcell (by simp)
      clear hS0
      generalize wr.drew=w2 at *
      go_wp2
      have hS0:Chg [] w2 w2.drew:=(Chg.refl [] w2).drew
      refine wp_region_way (Chg [] w2) [0,1,2,3,4,5,6,7,8,9,10,11,12] (Way.line [0,1,2,3,4,5,6,7,8,9,10,11,12] .done) (by kernel_rfl) (by kernel_rfl) ?_
      simp only[Way.line]
      repeat
       first
        | (refine along_off rfl (by rfl) (by rfl) (fun _ _ _ h=>h) hS0 ?_;simp only[Act.put,Z1,Z2,Z3,Z4,Z5,Z6])
        | (refine along_read (v:=?_) rfl (by rfl) (by rfl) (fun _ _ _ h=>h) hS0 (fun w' hS'=>?_) ?_;rotate_left;(focus (have rd0:=hS'.cell acell (by simp);have rd1:=hS'.cell bcell (by simp);clear hS';go_simp;try with_reducible rfl));simp only[Act.put,Z1,Z2,Z3,Z4,Z5,Z6])
        | (refine along_skip rfl (by rfl) (by rfl) hS0 ?_;simp only[Act.put,Z1,Z2,Z3,Z4,Z5,Z6])
      refine along_done ?_
      have HC2:=lh (HC1.out.trans hS0 (by simp))
      have HROW2:=lh (HROW1.out.chg hS0 (by simp))
      have HBS2:=lh (Nat.le_trans HBS1.out hS0.size)
      have bcell:=hS0.cell bcell (by simp)
      clear hS0
      generalize w2.drew=w3 at *
      go_wp2
      go_roundw
      case rel=>exact⟨(x :: l),m,_,HU.out,HV.out.tail,HROW2.out,lh (by rw[←Plain.mergeL_gt2 HXY.out];exact HM.out),lh (by have:=HL.out;simp at this ⊢;omega),lh (by have:=HLL.out;simp at this ⊢;omega),HC2.out⟩
      case measure=>simp[lenV]
     | true =>
      obtain rfl:need=1:=HN.out.symm
      go_wp2
      have hS0:Chg [] wr wr.drew:=(Chg.refl [] wr).drew
      refine wp_region_way (Chg [] wr) [0,1,2,3,4,5,6,7,8,9,10,11,12,13,14,15,16,17] (Way.line [0,1,2,3,4,5,6,7,8,9,10,11,12,13,14,15,16,17] .done) (by kernel_rfl) (by kernel_rfl) ?_
      simp only[Way.line]
      repeat
       first
        | (refine along_off rfl (by rfl) (by rfl) (fun _ _ _ h=>h) hS0 ?_;simp only[Act.put,Z1,Z2,Z3,Z4,Z5,Z6])
        | (refine along_read (v:=?_) rfl (by rfl) (by rfl) (fun _ _ _ h=>h) hS0 (fun w' hS'=>?_) ?_;rotate_left;(focus (have rd0:=hS'.cell acell (by simp);have rd1:=hS'.cell bcell (by simp);clear hS';go_simp;try with_reducible rfl));simp only[Act.put,Z1,Z2,Z3,Z4,Z5,Z6])
        | (refine along_skip rfl (by rfl) (by rfl) hS0 ?_;simp only[Act.put,Z1,Z2,Z3,Z4,Z5,Z6])
      refine along_done ?_
      have HC1:=lh (HC0.out.trans hS0 (by simp))
      have HROW1:=lh (HROW0.out.chg hS0 (by simp))
      have HBS1:=lh (Nat.le_trans HBS0.out hS0.size)
      have acell:=hS0.cell acell (by simp)
      have bcell:=hS0.cell bcell (by simp)
      clear hS0
      generalize wr.drew=w2 at *
      go_wp2
      have hS0:Chg [] w2 w2.drew:=(Chg.refl [] w2).drew
      refine wp_region_way (Chg [] w2) [0,1,2,3,4,5,6,7,8,9,10,11,12] (Way.line [0,1,2,3,4,5,6,7,8,9,10,11,12] .done) (by kernel_rfl) (by kernel_rfl) ?_
      simp only[Way.line]
      repeat
       first
        | (refine along_off rfl (by rfl) (by rfl) (fun _ _ _ h=>h) hS0 ?_;simp only[Act.put,Z1,Z2,Z3,Z4,Z5,Z6])
        | (refine along_read (v:=?_) rfl (by rfl) (by rfl) (fun _ _ _ h=>h) hS0 (fun w' hS'=>?_) ?_;rotate_left;(focus (have rd0:=hS'.cell acell (by simp);have rd1:=hS'.cell bcell (by simp);clear hS';go_simp;try with_reducible rfl));simp only[Act.put,Z1,Z2,Z3,Z4,Z5,Z6])
        | (refine along_skip rfl (by rfl) (by rfl) hS0 ?_;simp only[Act.put,Z1,Z2,Z3,Z4,Z5,Z6])
      refine along_done ?_
      have HC2:=lh (HC1.out.trans hS0 (by simp))
      have HROW2:=lh (HROW1.out.chg hS0 (by simp))
      have HBS2:=lh (Nat.le_trans HBS1.out hS0.size)
      have bcell:=hS0.cell bcell (by simp)
      clear hS0
      generalize w2.drew=w3 at *
      go_wp2_with (at_builtin;refine wl_push rfl _ _ rfl (B:=w.heap.size) (v:=.slice oo _ oc) rfl rfl HROW2.out IY HBS2.out hml rfl ?_;intro v6 w6 r6 c6 f6;have R6:=lh r6;have C6:=lh c6;clear r6 c6 f6)
      go_roundw
      case rel=>exact⟨(x :: l),m,_,HU.out,HV.out.tail,R6.out,lh (by rw[List.append_assoc,←Plain.mergeL_gt1 HXY.out];exact HM.out),lh (by have:=HL.out;simp at this ⊢;omega),lh (by have:=HLL.out;simp at this ⊢;omega),HC2.out.trans C6.out (fun j hj=>Or.inr (by rw[HROW2.out.foot] at hj;exact (HROW2.out.low j hj).1))⟩
      case measure=>simp[lenV]
    have byx:decide (y<x)=false:=decide_eq_false hyx
    have hxe:x=y:=by omega
    have HXY:=lh hxe
    clear hxy hyx hxe
    go_wp2
    have hS0:Chg [] wr wr.drew:=(Chg.refl [] wr).drew
    refine wp_region_way (Chg [] wr) [0,1,2,3,4,5,6,7,8,9,10,11,12,13,14,15,16,17] (Way.line [0,1,2,3,4,5,6,7,8,9,10,11,12,13,14,15,16,17] .done) (by kernel_rfl) (by kernel_rfl) ?_
    simp only[Way.line]
    repeat
     first
      | (refine along_off rfl (by rfl) (by rfl) (fun _ _ _ h=>h) hS0 ?_;simp only[Act.put,Z1,Z2,Z3,Z4,Z5,Z6])
      | (refine along_read (v:=?_) rfl (by rfl) (by rfl) (fun _ _ _ h=>h) hS0 (fun w' hS'=>?_) ?_;rotate_left;(focus (have rd0:=hS'.cell acell (by simp);have rd1:=hS'.cell bcell (by simp);clear hS';go_simp;try with_reducible rfl));simp only[Act.put,Z1,Z2,Z3,Z4,Z5,Z6])
      | (refine along_skip rfl (by rfl) (by rfl) hS0 ?_;simp only[Act.put,Z1,Z2,Z3,Z4,Z5,Z6])
    refine along_done ?_
    have HC1:=lh (HC0.out.trans hS0 (by simp))
    have HROW1:=lh (HROW0.out.chg hS0 (by simp))
    have HBS1:=lh (Nat.le_trans HBS0.out hS0.size)
    have acell:=hS0.cell acell (by simp)
    have bcell:=hS0.cell bcell (by simp)
    clear hS0
    generalize wr.drew=w2 at *
    go_wp2
    have hS0:Chg [] w2 w2.drew:=(Chg.refl [] w2).drew
    refine wp_region_way (Chg [] w2) [0,1,2,3,4,5,6,7,8,9,10,11,12] (Way.line [0,1,2,3,4,5,6,7,8,9,10,11,12] .done) (by kernel_rfl) (by kernel_rfl) ?_
    simp only[Way.line]
    repeat
     first
      | (refine along_off rfl (by rfl) (by rfl) (fun _ _ _ h=>h) hS0 ?_;simp only[Act.put,Z1,Z2,Z3,Z4,Z5,Z6])
      | (refine along_read (v:=?_) rfl (by rfl) (by rfl) (fun _ _ _ h=>h) hS0 (fun w' hS'=>?_) ?_;rotate_left;(focus (have rd0:=hS'.cell acell (by simp);have rd1:=hS'.cell bcell (by simp);clear hS';go_simp;try with_reducible rfl));simp only[Act.put,Z1,Z2,Z3,Z4,Z5,Z6])
      | (refine along_skip rfl (by rfl) (by rfl) hS0 ?_;simp only[Act.put,Z1,Z2,Z3,Z4,Z5,Z6])
    refine along_done ?_
    have HC2:=lh (HC1.out.trans hS0 (by simp))
    have HROW2:=lh (HROW1.out.chg hS0 (by simp))
    have HBS2:=lh (Nat.le_trans HBS1.out hS0.size)
    have acell:=hS0.cell acell (by simp)
    clear hS0
    generalize w2.drew=w3 at *
    go_wp2_with (at_builtin;refine wl_push rfl _ _ rfl (B:=w.heap.size) (v:=.slice oo _ oc) rfl rfl HROW2.out IX HBS2.out hml rfl ?_;intro v6 w6 r6 c6 f6;have R6:=lh r6;have C6:=lh c6;clear r6 c6 f6)
    have HC7:=lh (HC2.out.trans C6.out (fun j hj=>Or.inr (by rw[HROW2.out.foot] at hj;exact (HROW2.out.low j hj).1)))
    have n1:(1:Int)≤((l.length+1:Nat):Int):=by omega
    have n2:(1:Int)≤((m.length+1:Nat):Int):=by omega
    have n3:(1:Int)≤(l.length:Int)+1:=by omega
    have n4:(1:Int)≤(m.length:Int)+1:=by omega
    have hS0:Chg [] w6 w6.drew:=(Chg.refl [] w6).drew
    refine wp_region_way (Chg [] w6) [0,1,2,3,4,5] (Way.line [0,1,2,3,4,5] .done) (by kernel_rfl) (by kernel_rfl) ?_
    simp only[Way.line]
    repeat
     first
      | (refine along_off rfl (by rfl) (by rfl) (fun _ _ _ h=>h) hS0 ?_;simp only[Act.put,Z1,Z2,Z3,Z4,Z5,Z6])
      | (refine along_read (v:=?_) rfl (by rfl) (by rfl) (fun _ _ _ h=>h) hS0 (fun w' hS'=>?_) ?_;rotate_left;(focus (skip;clear hS';go_simp;try with_reducible rfl));simp only[Act.put,Z1,Z2,Z3,Z4,Z5,Z6])
      | (refine along_skip rfl (by rfl) (by rfl) hS0 ?_;simp only[Act.put,Z1,Z2,Z3,Z4,Z5,Z6])
    refine along_done ?_
    have HC8:=lh (HC7.out.trans hS0 (by simp))
    have HROW8:=lh (R6.out.chg hS0 (by simp))
    clear hS0
    generalize w6.drew=w9 at *
    go_wp2
    go_roundw
    case rel=>exact⟨l,m,_,HU.out.tail,HV.out.tail,HROW8.out,lh (by have:=HM.out;rw[←HXY.out,Plain.mergeL_eq,←List.append_assoc] at this;exact this),lh (by have:=HL.out;simp at this ⊢;omega),lh (by have:=HLL.out;simp at this ⊢;omega),HC8.out⟩
    case measure=>simp[lenV];omega
end Go.Proofs.YtkacjmoamgjfpaaGreat
