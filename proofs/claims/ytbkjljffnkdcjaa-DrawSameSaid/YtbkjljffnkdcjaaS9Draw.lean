/- What is left of a drawing is a drawing: edges are taken out one by one (Euler), then vertices that none leaves. No program here. -/
import Derived.Test.YtbkjljffnkdcjaaS9Map
namespace Go.Proofs.Ytbkjljffnkdcjaa.Plain
section
variable {g : Gr} {p q : Pt} {turn : List (List Int)}
structure RingsOf (g:Gr) (p q:Pt) (turn:List (List Int)) (C:List (List Int)):Prop where
 rings:Rings (fun x=>bef g turn (tw q.e x)) C
 all:C.flatten.Perm (ground g p turn p.v)
theorem flat_of {W:List Face} (hpe:p.err g=0) (ht:TurnsOk g p turn) (hW:WalksOk g p turn W) (he:p.v.length+W.length=2*(roots g p).length+p.e.length):∀ r∈roots g p,genusAt g p W r=0:=by
 have h:=Pt.ok_of_err hpe
 have h1:=class_sum h (fun v:Int=>v) p.v (fun _ hx=>hx)
 have h2:=class_sum h (fun f:Face=>f.corner g) W (corner_mem h hW.faces)
 have h3:=class_sum h (fun e:Int=>g.tail (2*e)) p.e (fun e hx=>(h.tail_mem (d:=2*e) (mem_darts.2 (by rw[show 2*e / 2=e by omega];exact hx))).1)
 have hcl:∀ r,(p.v.filter fun v=>decide (v∈comp g p r)).length=(comp g p r).length:=fun r=>sub_verts r
 have key:∀ {R:List Int} {a b c:Int→Nat},(∀ r∈R,a r+b r≤2+c r)→(R.map a).sum+(R.map b).sum=2*R.length+(R.map c).sum→∀ r∈R,a r+b r=2+c r:=by
  intro R a b c
  induction R with
  | nil=>intro _ _ r hr;simp at hr
  | cons x R ih =>
   intro hle hs r hr
   simp only[List.map_cons,List.sum_cons,List.length_cons] at hs
   have hx:=hle x (by simp)
   have hR:(R.map a).sum+(R.map b).sum≤2*R.length+(R.map c).sum:=by
    have:∀ {R:List Int},(∀ r∈R,a r+b r≤2+c r)→(R.map a).sum+(R.map b).sum≤2*R.length+(R.map c).sum:=by
     intro R
     induction R with
     | nil=>intro _;simp
     | cons y R ih2 =>
      intro hl
      have:=hl y (by simp)
      have:=ih2 fun r hr=>hl r (by simp[hr])
      simp only[List.map_cons,List.sum_cons,List.length_cons]
      omega
    exact this fun r hr=>hle r (by simp[hr])
   rcases List.mem_cons.1 hr with rfl | hr
   ·omega
   exact ih (fun r hr=>hle r (by simp[hr])) (by omega) r hr
 intro r hr
 have:=key (R:=roots g p) (a:=fun r=>(p.v.filter fun v=>decide (v∈comp g p r)).length) (b:=fun r=>(W.filter fun f=>decide (f.corner g∈comp g p r)).length) (c:=fun r=>(p.e.filter fun e=>decide (g.tail (2*e)∈comp g p r)).length)
  (fun r hr=>by show (p.v.filter fun v=>decide (v∈comp g p r)).length+_≤_;rw[hcl];exact piece_le hpe ht hW r) (by rw[h1,h2,h3];exact he) r hr
 simp only[hcl] at this
 unfold genusAt
 have e:(2 - ((comp g p r).length:Int)+((p.e.filter fun e=>decide (g.tail (2*e)∈comp g p r)).length:Int) - ((W.filter fun f=>decide (f.corner g∈comp g p r)).length:Int))=0:=by omega
 rw[e];rfl
end
section
variable {g : Gr} {p q : Pt} {turn same : List (List Int)}
end
end Go.Proofs.Ytbkjljffnkdcjaa.Plain
namespace Go.Proofs.Ytbkjljffnkdcjaa
open Go.RowKit Go.Maps
theorem seq_any (va vb:Value) (a b:List Int) (w:World) (ha:IntsAt w va a) (hb:IntsAt w vb b) :
  Calls Try.prog 46 #[va,vb] w fun e w'=>e=.returned (.bool (decide (a=b)))∧Chg [] w w':=by
 obtain⟨ao,ac,rfl,-,ham,hac⟩:=ha
 obtain⟨bo,bc,rfl,-,hbm,hbc⟩:=hb
 by_cases hl:a.length=b.length
 ·by_cases h0:a=[]
  ·subst h0
   have hb0:b=[]:=List.length_eq_zero_iff.1 hl.symm
   subst hb0
   refine (Try.slices_Equal_int_empty ao bo ac 0 bc w (by decide)).mono ?_
   rintro e w' ⟨rfl,rfl⟩
   exact⟨rfl,Chg.refl _ _⟩
  have hb0:b≠[]:=fun e=>h0 (List.length_eq_zero_iff.1 (by rw[hl,e];rfl))
  obtain⟨ba,oa,rfl,ca⟩:=hac h0
  obtain⟨bb,ob,rfl,cb⟩:=hbc hb0
  refine (Try.slices_Equal_int ba oa a.length ac bb ob b.length bc a b w (Nat.le_refl _) (Nat.le_refl _) (by omega) (by omega) ca cb).mono ?_
  rintro e w' ⟨rfl,n,rfl⟩
  refine⟨?_,?_⟩
  ·rw[List.take_length,List.take_length]
   by_cases h:a=b
   ·subst h;simp
   have h1:(a==b)=false:=beq_eq_false_iff_ne.2 h
   rw[h1,decide_eq_false (show ¬ a=b from h)]
  exact (Chg.refl [] w).drewN _
 refine (Try.slices_Equal_int_lens ao bo a.length ac b.length bc w hl).mono ?_
 rintro e w' ⟨rfl,rfl⟩
 exact⟨by simp[show ¬ a=b from fun e=>hl (by rw[e])],Chg.refl _ _⟩
namespace Plain
end Plain
namespace Plain
end Plain
end Go.Proofs.Ytbkjljffnkdcjaa
namespace Go.Proofs.Ytbkjljffnkdcjaa.Plain
section
variable {g : Gr} {p q : Pt} {turn same : List (List Int)}
end
theorem list_ahead {x:Int} {l m:List Int} (hl:(x :: l).Nodup) (hm:(x :: m).Nodup) (h:∀ y∈x :: l,ahead (x :: l) y=ahead (x :: m) y):l=m:=by
 have r1:=ahead_ring hl (by simp)
 have r2:=ahead_ring hm (by simp)
 have turn:∀ {p:Int→Int} {l:List Int},Ring p (x :: l).reverse→Trail p x l.reverse x:=by
  intro p l hr
  rw[List.reverse_cons] at hr
  cases e:l.reverse with
  | nil=>rw[e] at hr;exact hr
  | cons y k =>
   rw[e] at hr
   have hr:Ring p (y :: k++[x]):=hr
   have:=Ring.turn (m:=[]) hr
   exact this
 have t1:=turn r1
 have t2:=turn r2
 have t1:Trail (ahead (x :: m)) x l.reverse x:=t1.congr fun y hy=>h y (by
  rcases hy with e | hy
  ·rw[e];simp
  exact List.mem_cons_of_mem _ (List.mem_reverse.1 hy))
 rw[List.nodup_cons] at hl hm
 have:=Trail.det t1 t2 (fun k=>hl.1 (List.mem_reverse.1 k)) (fun k=>hm.1 (List.mem_reverse.1 k))
 exact List.reverse_inj.1 this
theorem first_cons {l:List Int} (h:l≠[]):∃ x m,first l=x :: m∧∀ y∈l,x≤y:=by
 have h0:0<l.length:=List.length_pos_iff.2 h
 have hl:=lst_lt h0 l.length (Nat.le_refl _)
 cases e:first l with
 | nil =>
  have:=(first_perm l).length_eq
  rw[e] at this
  exact absurd (List.length_eq_zero_iff.1 this.symm) h
 | cons x m =>
  refine⟨x,m,rfl,fun y hy=>?_⟩
  obtain⟨i,hi,rfl⟩:=mem_getD hy
  have e0:x=l.getD (lst l l.length) 0:=by
   have h1:(first l).getD 0 0=x:=by rw[e];rfl
   rw[←h1]
   unfold first
   have hd:0<l.length - lst l l.length:=by omega
   simp[List.getD,List.getElem?_append,hl,hd]
  rw[e0]
  exact lst_min l l.length i hi
theorem first_turn {l m:List Int} (hl:l.Nodup) (hp:l.Perm m) (h:∀ y∈l,ahead l y=ahead m y):first l=first m:=by
 by_cases e:l=[]
 ·subst e;rw[List.Perm.eq_nil hp.symm]
 have hm:m.Nodup:=hp.nodup_iff.1 hl
 have em:m≠[]:=fun k=>e (List.Perm.eq_nil (k ▸ hp))
 obtain⟨x,a,ha,hxa⟩:=first_cons e
 obtain⟨y,b,hb,hyb⟩:=first_cons em
 have hxl:x∈l:=(first_perm l).mem_iff.1 (by rw[ha];simp)
 have hym:y∈m:=(first_perm m).mem_iff.1 (by rw[hb];simp)
 have hxy:x=y:=by
  have h1:=hxa y (hp.mem_iff.2 hym)
  have h2:=hyb x (hp.mem_iff.1 hxl)
  omega
 subst hxy
 have n1:(first l).Nodup:=(first_perm l).nodup_iff.2 hl
 have n2:(first m).Nodup:=(first_perm m).nodup_iff.2 hm
 have hah:∀ z∈first l,ahead (first l) z=ahead (first m) z:=fun z hz=>by
  have hzl:=(first_perm l).mem_iff.1 hz
  rw[ahead_begun hl z hzl,ahead_begun hm z (hp.mem_iff.1 hzl)]
  exact h z hzl
 rw[ha,hb] at hah
 rw[ha] at n1
 rw[hb] at n2
 rw[ha,hb,list_ahead n1 n2 hah]
section
variable {g : Gr} {p q r : Pt} {turn same : List (List Int)}
end
end Go.Proofs.Ytbkjljffnkdcjaa.Plain
