/- draw.begin's ring in plain words: a closed way through the least edge, no vertex twice. No program here. -/
import Derived.Test.YtbkjljffnkdcjaaS9Begin
namespace Go.Proofs.Ytbkjljffnkdcjaa.Plain
theorem pathRun_pos {g:Gr} {p:Pt} {b:Int} {f:Int→Option Int} (hp:PartOk g p) (h0:∀ v∈p.v,0≤v) (h:Prev g p b f) (hc:∀ v,f v≠none↔Come g p (-1) b v):∀ (n:Nat) (v:Int),f v=some (n:Int)→∀ d∈pathRun g p f n v,g.tail d≠b
 | 0,_,_=>by simp[pathRun]
 | n+1,v,hv=>by
  obtain⟨k,-,-,-,h4,h5,h6⟩:=nextD_ok h (v:=v) (n:=n) (by rw[hv];congr 1) (fun d hd ht=>by
   have h1:=(hc v).1 (by rw[hv];simp)
   have h2:=near_dart (g:=g) hd
   rw[ht] at h2
   have h3:=h0 _ (hp.tail_mem hd).2
   exact (hc _).2 (h1.step h2 (by omega)))
  intro d hd
  rcases List.mem_cons.1 hd with r | r
  ·rw[r,h5]
   intro e
   rw[e,h.base] at hv
   simp at hv
   omega
  exact pathRun_pos hp h0 h hc n _ h6 d r
theorem ring_ok {g:Gr} {p:Pt} (hp:p.err g=0) (_he:0<p.e.length)
  (h:Prev g (dropE p (p.e.getD 0 0)) (g.at (p.e.getD 0 0)).1 (reachF g (dropE p (p.e.getD 0 0)) (-1) (g.at (p.e.getD 0 0)).1))
  (hc:∀ v,reachF g (dropE p (p.e.getD 0 0)) (-1) (g.at (p.e.getD 0 0)).1 v≠none↔Come g (dropE p (p.e.getD 0 0)) (-1) (g.at (p.e.getD 0 0)).1 v)
  (hs:Come g (dropE p (p.e.getD 0 0)) (-1) (g.at (p.e.getD 0 0)).1 (g.at (p.e.getD 0 0)).2) :
  Link g (g.at (p.e.getD 0 0)).1 (ringOf g p) (g.at (p.e.getD 0 0)).1∧((ringOf g p).map g.tail).Nodup∧∀ d∈(ringOf g p).tail,d∈(dropE p (p.e.getD 0 0)).darts:=by
 have hd:=Pt.ok_of_err (dropE_err hp (p.e.getD 0 0))
 have ht:=tail_even g (p.e.getD 0 0)
 have hn:=(hc _).2 hs
 unfold ringOf pathF
 obtain⟨c,hq⟩:=Option.ne_none_iff_exists'.1 hn
 have h0:=h.low _ c hq
 have hq2:reachF g (dropE p (p.e.getD 0 0)) (-1) (g.at (p.e.getD 0 0)).1 (g.at (p.e.getD 0 0)).2=some ((c.toNat:Nat):Int):=by rw[hq];congr 1;omega
 obtain⟨i1,i2,-,i4⟩:=pathRun_ok hd (fun v hv=>(hd.vr v hv).1) h hc c.toNat _ hq2
 have i5:=pathRun_pos hd (fun v hv=>(hd.vr v hv).1) h hc c.toNat _ hq2
 rw[hq]
 simp only[Option.map_some,Option.getD_some]
 refine⟨⟨ht.1,by rw[ht.2];exact i1⟩,?_,fun d hd2=>i2 d hd2⟩
 rw[List.map_cons,List.nodup_cons,ht.1]
 refine⟨fun q=>?_,i4⟩
 obtain⟨d,h1,h2⟩:=List.mem_map.1 q
 exact i5 d h1 h2
theorem come_first {g:Gr} {p:Pt} {s a u:Int} (h:Come g p s a u):u=a∨∃ w,Near g p a w∧w≠s:=by
 induction h with
 | here=>exact Or.inl rfl
 | step h1 hn hs ih =>
  rcases ih with r | r
  ·subst r;exact Or.inr ⟨_,hn,hs⟩
  exact Or.inr r
theorem near_mem {g:Gr} {p:Pt} {u w:Int} (hp:PartOk g p) (h:Near g p u w):w∈p.v:=by
 obtain⟨e,he,r | r⟩:=h
 ·have:=(hp.ends e he).2;rw[r] at this;exact this
 have:=(hp.ends e he).1;rw[r] at this;exact this
theorem solid_loop {g:Gr} {b:Pt} {e0 e1:Int} {l:List Int} (hb:PartOk g b) (hS:SolidP g b) (hbe:b.e=e0 :: e1 :: l):∀ e∈b.e,(g.at e).1≠(g.at e).2:=by
 intro e he q
 have hn:=hb.en
 rw[hbe] at hn
 have hne:e0≠e1:=fun r=>by rw[r] at hn;simp at hn
 obtain⟨f,hf,hef⟩:∃ f∈b.e,e≠f:=by
  by_cases r:e=e0
  ·exact⟨e1,by rw[hbe];simp,by rw[r];exact hne⟩
  exact⟨e0,by rw[hbe];simp,r⟩
 exact solid_any hS e he f hf (g.at e).1 (hb.ends e he).1 ⟨hef,Or.inl ⟨rfl,q.symm⟩⟩
theorem ring_path {g:Gr} {b:Pt} {e0 e1:Int} {l:List Int} (hb:PartOk g b) (hS:SolidP g b) (hbe:b.e=e0 :: e1 :: l):Come g (dropE b e0) (-1) (g.at e0).1 (g.at e0).2:=by
 have hl:=solid_loop hb hS hbe
 have h0:e0∈b.e:=by rw[hbe];simp
 have h1:e1∈b.e:=by rw[hbe];simp
 have hn:=hb.en
 rw[hbe] at hn
 have hne:e0≠e1:=fun r=>by rw[r] at hn;simp at hn
 have hap:=solid_any hS
 have hend:=hb.ends e0 h0
 have hl0:=hl e0 h0
 have hcome:∀ f∈b.e,e0≠f→∀ v∈b.v,Come g b v (off g v e0) (off g v f):=fun f hf hn v hv=>Classical.byContradiction fun r=>hap e0 h0 f hf v hv ⟨hn,Or.inr (Or.inr r)⟩
 obtain⟨x,hx⟩:∃ x,(g.at e0).1=x:=⟨_,rfl⟩
 obtain⟨z,hz⟩:∃ z,(g.at e0).2=z:=⟨_,rfl⟩
 have he0:g.at e0=(x,z):=by rw[←hx,←hz]
 rw[hx,hz] at hl0 hend ⊢
 have ho1:off g x e0=z:=by unfold off;rw[if_pos hx,hz]
 have ho2:off g z e0=x:=by unfold off;rw[if_neg (by rw[hx];exact hl0),hx]
 obtain⟨e2,h2,hn2,hz2⟩:∃ e2∈b.e,e0≠e2∧EndOf g e2 z:=by
  have h3:=hcome e1 h1 hne x hend.1
  rw[ho1] at h3
  rcases come_first h3 with r | ⟨w,hw,hwx⟩
  ·exact⟨e1,h1,hne,by rw[←r];exact off_end⟩
  obtain⟨e,he,r⟩:=hw
  refine⟨e,he,fun q=>?_,?_⟩
  ·rw[←q,he0] at r
   rcases r with r | r
   ·exact hl0 (congrArg Prod.fst r)
   exact hwx (congrArg Prod.fst r).symm
  rcases r with r | r
  ·exact Or.inl (by rw[r])
  exact Or.inr (by rw[r])
 have h4:=hcome e2 h2 hn2 z hend.2
 rw[ho2] at h4
 have h5:∀ u,Come g b z x u→u≠z∧Come g (dropE b e0) (-1) x u:=fun u hu=>by
  induction hu with
  | here=>exact⟨hl0,.here⟩
  | step _ hn hs ih =>
   refine⟨hs,ih.2.step ?_ (by have:=(hb.vr _ (near_mem hb hn)).1;omega)⟩
   obtain⟨e,he,r⟩:=hn
   refine⟨e,List.mem_filter.2 ⟨he,?_⟩,r⟩
   rw[bne_iff_ne]
   intro q
   rw[q,he0] at r
   rcases r with r | r
   ·exact hs (congrArg Prod.snd r).symm
   exact ih.1 (congrArg Prod.snd r).symm
 have h6:=(h5 _ h4).2
 refine h6.step ⟨e2,List.mem_filter.2 ⟨h2,by rw[bne_iff_ne];exact fun q=>hn2 q.symm⟩,?_⟩ (by have:=(hb.vr _ hend.2).1;omega)
 unfold off
 split
 ·rename_i q;exact Or.inr (by rw[←q])
 rename_i q
 rcases hz2 with r | r
 ·exact absurd r q
 exact Or.inl (by rw[←r])
def oneTurn (g:Gr) (p:Pt):List (List Int):=(List.range g.n.toNat).map fun v:Nat=>dartsAt g p v
theorem oneTurn_at {g:Gr} {p:Pt} {v:Int} (h0:0≤v) (hn:v<g.n):turnAt (oneTurn g p) v=dartsAt g p v:=by
 obtain⟨n,rfl⟩:∃ n:Nat,v=n:=⟨v.toNat,by omega⟩
 have hlt:n<g.n.toNat:=by omega
 show ((List.range g.n.toNat).map _).getD n []=_
 simp only[List.getD,List.getElem?_map,List.getElem?_range hlt,Option.map_some,Option.getD_some]
theorem oneTurn_ok {g:Gr} {p:Pt} (hp:PartOk g p) (hn:0≤g.n):TurnsOk g p (oneTurn g p):=by
 refine⟨by simp[oneTurn];omega,fun v=>?_,fun v h0 h1 d=>by rw[oneTurn_at h0 h1];exact mem_dartsAt⟩
 by_cases hv:v.toNat<g.n.toNat
 ·have:=oneTurn_at (g:=g) (p:=p) (v:=(v.toNat:Int)) (by omega) (by omega)
  unfold turnAt at this ⊢
  rw[Int.toNat_natCast] at this
  rw[this]
  exact dartsAt_nodup hp.en _
 have:turnAt (oneTurn g p) v=[]:=by
  unfold turnAt
  rw[List.getD,List.getElem?_eq_none (by simp[oneTurn];omega)]
  rfl
 rw[this];simp
theorem tail_odd' (g:Gr) (e:Int):g.tail (2*e+1)=(g.at e).2∧g.head (2*e+1)=(g.at e).1:=by
 unfold Gr.tail Gr.head
 rw[if_neg (by omega),if_neg (by omega),show (2*e+1) / 2=e by omega]
 exact⟨rfl,rfl⟩
theorem twin_pair (e:Int):twin (2*e)=2*e+1∧twin (2*e+1)=2*e:=by
 unfold twin
 rw[if_pos (by omega),if_neg (by omega)]
 exact⟨rfl,by omega⟩
theorem ahead_one (x:Int):ahead [x] x=x:=by simp[ahead]
theorem ahead_both {x y:Int} (h:x≠y):ahead [x,y] x=y∧ahead [x,y] y=x:=by
 have h':¬ (x==y)=true:=by simpa using h
 simp[ahead,List.idxOf,List.findIdx_cons,h']
theorem edge_faces {g:Gr} {p:Pt} {e:Int} (hpe:p.err g=0) (he:p.e=[e]) (hv:∀ v,v∈p.v↔v=(g.at e).1∨v=(g.at e).2) :
  Faces g p (oneTurn g p) (if (g.at e).1=(g.at e).2 then [[2*e],[2*e+1]] else [[2*e,2*e+1]]):=by
 have hk:=Pt.ok_of_err hpe
 have hn:=(Gr.err_ok (Pt.err_ok hpe).1).1
 have hd:p.darts=[2*e,2*e+1]:=by unfold Pt.darts;rw[he];rfl
 have hto:=oneTurn_ok hk hn
 have hem:e∈p.e:=by rw[he];simp
 have hen:=hk.ends e hem
 have hr1:=hk.vr _ hen.1
 have hr2:=hk.vr _ hen.2
 obtain⟨t1,t2⟩:=tail_even g e
 obtain⟨t3,t4⟩:=tail_odd' g e
 obtain⟨w1,w2⟩:=twin_pair e
 have hfull:∀ v∈p.v,∃ d∈p.darts,g.tail d=v:=fun v h=>by
  rw[hd]
  rcases (hv v).1 h with r | r
  ·exact⟨2*e,by simp,t1.trans r.symm⟩
  exact⟨2*e+1,by simp,t3.trans r.symm⟩
 have hnear:Near g p (g.at e).1 (g.at e).2:=⟨e,hem,Or.inl rfl⟩
 have hjoin:∀ u∈p.v,∀ v∈p.v,Come g p (-1) u v:=fun u hu v hvv=>by
  rcases (hv u).1 hu with r | r <;> rcases (hv v).1 hvv with s | s
  ·rw[r,s];exact .here
  ·rw[r,s];exact .step .here hnear (by omega)
  ·rw[r,s];exact .step .here hnear.symm (by omega)
  rw[r,s];exact .here
 by_cases hq:(g.at e).1=(g.at e).2
 ·rw[if_pos hq]
  have hda:dartsAt g p (g.at e).1=[2*e,2*e+1]:=by
   unfold dartsAt
   rw[hd,List.filter_cons_of_pos (by simpa using t1),List.filter_cons_of_pos (by simpa using t3.trans hq.symm)]
   rfl
  have hvl:p.v.length=1:=by
   have:p.v.Perm [(g.at e).1]:=(List.perm_ext_iff_of_nodup hk.vn (by simp)).2 fun u=>by rw[hv,←hq];simp
   exact this.length_eq
  obtain⟨k1,k2⟩:=ahead_both (x:=2*e) (y:=2*e+1) (by omega)
  refine⟨hpe,hto,⟨fun c hc=>?_,?_⟩,?_,fun f hf=>?_,hfull,?_,hjoin⟩
  ·rcases List.mem_cons.1 hc with r | r
   ·rw[r]
    show nextDart g (oneTurn g p) (2*e)=2*e
    unfold nextDart before
    rw[w1,t3,←hq,oneTurn_at hr1.1 hr1.2,hda]
    exact k2
   rw[List.mem_singleton.1 r]
   show nextDart g (oneTurn g p) (2*e+1)=2*e+1
   unfold nextDart before
   rw[w2,t1,oneTurn_at hr1.1 hr1.2,hda]
   exact k1
  ·show [2*e,2*e+1].Nodup
   simp
   omega
  ·rw[hd];exact List.Perm.refl _
  ·rcases List.mem_cons.1 hf with r | r
   ·rw[r];simp
   rw[List.mem_singleton.1 r];simp
  rw[hvl,he];rfl
 rw[if_neg hq]
 have hda:dartsAt g p (g.at e).1=[2*e]:=by
  unfold dartsAt
  rw[hd,List.filter_cons_of_pos (by simpa using t1),List.filter_cons_of_neg (by simpa[t3] using fun r=>hq r.symm)]
  rfl
 have hdz:dartsAt g p (g.at e).2=[2*e+1]:=by
  unfold dartsAt
  rw[hd,List.filter_cons_of_neg (by simpa[t1] using hq),List.filter_cons_of_pos (by simpa using t3)]
  rfl
 have hvl:p.v.length=2:=by
  have:p.v.Perm [(g.at e).1,(g.at e).2]:=(List.perm_ext_iff_of_nodup hk.vn (by simpa using hq)).2 fun u=>by rw[hv];simp
  exact this.length_eq
 refine⟨hpe,hto,⟨fun c hc=>?_,?_⟩,?_,fun f hf=>?_,hfull,?_,hjoin⟩
 ·rw[List.mem_singleton.1 hc]
  refine⟨?_,?_⟩
  ·unfold nextDart before
   rw[w1,t3,oneTurn_at hr2.1 hr2.2,hdz]
   exact ahead_one _
  show nextDart g (oneTurn g p) (2*e+1)=2*e
  unfold nextDart before
  rw[w2,t1,oneTurn_at hr1.1 hr1.2,hda]
  exact ahead_one _
 ·show [2*e,2*e+1].Nodup
  simp
  omega
 ·rw[hd];exact List.Perm.refl _
 ·rw[List.mem_singleton.1 hf]
  simp[t1,t3,hq]
 rw[hvl,he];rfl
theorem ring_faces {g:Gr} {b:Pt} {e0:Int} {w:List Int} (hbe:b.err g=0) (h0:e0∈b.e) (hl:(g.at e0).1≠(g.at e0).2)
  (hL:Link g (g.at e0).2 w (g.at e0).1) (hN:((2*e0 :: w).map g.tail).Nodup) (hD:∀ d∈w,d∈(dropE b e0).darts) :
  ∃ p turn,Faces g p turn [2*e0 :: w,twins (2*e0 :: w)]∧(∀ v,v∈p.v↔v∈(2*e0 :: w).map g.tail)∧(∀ v∈p.v,v∈b.v)∧∀ e,e∈p.e↔e∈b.e∧e∈(2*e0 :: w).map (· / 2):=by
 have hbk:=Pt.ok_of_err hbe
 obtain⟨g1,g2,g3,-⟩:=Pt.err_ok hbe
 have hend:=hbk.ends e0 h0
 obtain⟨t1,t2⟩:=tail_even g e0
 obtain⟨t3,t4⟩:=tail_odd' g e0
 obtain⟨x,hx⟩:∃ x,(g.at e0).1=x:=⟨_,rfl⟩
 obtain⟨z,hz⟩:∃ z,(g.at e0).2=z:=⟨_,rfl⟩
 obtain⟨p,hpd⟩:∃ p:Pt,p=⟨b.v.filter fun v=>decide (v=x) || decide (v=z),b.e.filter fun e=>decide (e=e0)⟩:=⟨_,rfl⟩
 have hpv:∀ v,v∈p.v↔v=x∨v=z:=fun v=>by
  rw[hpd,List.mem_filter,Bool.or_eq_true,decide_eq_true_iff,decide_eq_true_iff]
  refine⟨fun k=>k.2,fun k=>⟨?_,k⟩⟩
  rcases k with r | r
  ·rw[r,←hx];exact hend.1
  rw[r,←hz];exact hend.2
 have hpe:p.e=[e0]:=by
  refine List.perm_singleton.1 ((List.perm_ext_iff_of_nodup (by rw[hpd];exact hbk.en.filter _) (by simp)).2 fun u=>?_)
  rw[hpd,List.mem_filter,decide_eq_true_iff,List.mem_singleton]
  exact⟨fun k=>k.2,fun k=>⟨by rw[k];exact h0,k⟩⟩
 have hperr:p.err g=0:=by
  refine Pt.err_of g1 (by rw[hpd];exact rises_filter g2 _) (by rw[hpd];exact rises_filter g3 _) fun e he=>?_
  rw[hpe,List.mem_singleton] at he
  subst he
  show (g.at e).1∈p.v∧(g.at e).2∈p.v
  rw[hx,hz]
  exact⟨(hpv _).2 (Or.inl rfl),(hpv _).2 (Or.inr rfl)⟩
 have hF:=edge_faces hperr hpe (fun v=>by rw[hx,hz];exact hpv v)
 rw[if_neg hl] at hF
 rw[hx,hz] at hL hl
 rw[hx] at t1 t4
 rw[hz] at t2 t3
 rw[List.map_cons,List.nodup_cons,t1] at hN
 obtain⟨hNx,hNw⟩:=hN
 obtain⟨c,l,rfl⟩:∃ c l,w=c :: l:=by
  cases w with
  | nil=>exact absurd hL.symm hl
  | cons c l=>exact⟨c,l,rfl⟩
 have hct:g.tail c=z:=hL.1
 have hh:=heads_tails hL
 have hNl:(l.map g.tail).Nodup∧z ∉ l.map g.tail:=by
  rw[List.map_cons,List.nodup_cons,hct] at hNw
  exact⟨hNw.2,hNw.1⟩
 have hxl:x ∉ l.map g.tail:=fun k=>hNx (by rw[List.map_cons];exact List.mem_cons_of_mem _ k)
 have hwi:WayIn g p (c :: l) z x:=by
  refine⟨hL,fun r=>hl r.symm,(hpv _).2 (Or.inr rfl),(hpv _).2 (Or.inl rfl),fun d hd=>?_,hNw,link_edges hL ?_ ?_,fun d hd=>?_⟩
  ·rw[hpv]
   have hd':g.tail d∈l.map g.tail:=List.mem_map.2 ⟨d,hd,rfl⟩
   rintro (r | r)
   ·rw[r] at hd';exact hxl hd'
   rw[r] at hd';exact hNl.2 hd'
  ·rw[hh,List.nodup_append]
   exact⟨hNl.1,by simp,fun u hu v hv e=>hxl (by rw[←List.mem_singleton.1 hv,←e];exact hu)⟩
  ·rw[hh,List.mem_append,List.mem_singleton]
   rintro (r | r)
   ·exact hNl.2 r
   exact hl r.symm
  rw[hpe,List.mem_singleton]
  have:=(List.mem_filter.1 (mem_darts.1 (hD d hd))).2
  rw[bne_iff_ne] at this
  exact this
 have hDb:∀ d∈c :: l,d∈b.darts:=fun d hd=>mem_darts.2 (List.mem_filter.1 (mem_darts.1 (hD d hd))).1
 obtain⟨q,hqd⟩:∃ q:Pt,q=⟨b.v.filter fun v=>decide (v∈p.v) || decide (v∈(c :: l).map g.tail),b.e.filter fun e=>decide (e∈p.e) || decide (e∈(c :: l).map (· / 2))⟩:=⟨_,rfl⟩
 have hqv:∀ v,v∈q.v↔v∈p.v∨v∈(c :: l).map g.tail:=fun v=>by
  rw[hqd,List.mem_filter,Bool.or_eq_true,decide_eq_true_iff,decide_eq_true_iff]
  refine⟨fun k=>k.2,fun k=>⟨?_,k⟩⟩
  rcases k with r | r
  ·rw[hpd] at r;exact (List.mem_filter.1 r).1
  obtain⟨d,hd,rfl⟩:=List.mem_map.1 r
  exact (hbk.tail_mem (hDb d hd)).1
 have hqe:∀ e,e∈q.e↔e∈p.e∨e∈(c :: l).map (· / 2):=fun e=>by
  rw[hqd,List.mem_filter,Bool.or_eq_true,decide_eq_true_iff,decide_eq_true_iff]
  refine⟨fun k=>k.2,fun k=>⟨?_,k⟩⟩
  rcases k with r | r
  ·rw[hpe,List.mem_singleton] at r;rw[r];exact h0
  obtain⟨d,hd,rfl⟩:=List.mem_map.1 r
  exact mem_darts.1 (hDb d hd)
 have hqv2:∀ d∈c :: l,g.tail d∈q.v∧g.head d∈q.v:=fun d hd=>by
  refine⟨(hqv _).2 (Or.inr (List.mem_map.2 ⟨d,hd,rfl⟩)),(hqv _).2 ?_⟩
  have h3:g.head d∈(c :: l).map g.head:=List.mem_map.2 ⟨d,hd,rfl⟩
  rw[hh] at h3
  rcases List.mem_append.1 h3 with k | k
  ·exact Or.inr (by rw[List.map_cons];exact List.mem_cons_of_mem _ k)
  exact Or.inl (by rw[List.mem_singleton.1 k];exact hwi.zv)
 have hpk:=Pt.ok_of_err hperr
 have hqerr:q.err g=0:=by
  refine Pt.err_of g1 (by rw[hqd];exact rises_filter g2 _) (by rw[hqd];exact rises_filter g3 _) fun e he=>?_
  show (g.at e).1∈q.v∧(g.at e).2∈q.v
  rcases (hqe e).1 he with k | k
  ·exact⟨(hqv _).2 (Or.inl (hpk.ends e k).1),(hqv _).2 (Or.inl (hpk.ends e k).2)⟩
  obtain⟨d,hd,rfl⟩:=List.mem_map.1 k
  obtain⟨k1,k2⟩:=hqv2 d hd
  rcases dart_ats g d with ⟨j1,j2⟩ | ⟨j1,j2⟩
  ·rw[←j1,←j2];exact⟨k1,k2⟩
  rw[←j1,←j2];exact⟨k2,k1⟩
 have hplus:Plus g p (c :: l) q:=⟨hqerr,hqv,hqe⟩
 have hF1:Faces g p (oneTurn g p) (((2*e0+1) :: []++(2*e0) :: []) :: []):=Faces.roll (A:=[2*e0]) (B:=[2*e0+1]) hF
 have hxd:2*e0+1∈p.darts∧2*e0∈p.darts:=by unfold Pt.darts;rw[hpe];simp
 obtain⟨r1,r2⟩:=plusTurn_ok hF1 hwi hplus hxd.1 t3 hxd.2 t1
 have hF2:=hF1.put hwi hplus r1 r2 (List.Perm.refl _) (List.Perm.refl _) t3 t1
 refine⟨q,plusTurn g p q (oneTurn g p) (c :: l) z x (2*e0+1) (2*e0),?_,fun v=>?_,fun v hv=>?_,fun e=>?_⟩
 ·have hF3:=Faces.roll (A:=[2*e0+1]) (B:=twins (c :: l)) hF2
  have hF4:=Faces.roll (A:=c :: l) (B:=[2*e0]) (hF3.perm (List.Perm.swap _ _ _))
  have e1:twins (2*e0 :: c :: l)=twins (c :: l)++[2*e0+1]:=by
   unfold twins
   rw[List.map_cons,List.reverse_cons,(twin_pair e0).1]
  rw[e1]
  exact hF4
 ·have e1:(2*e0 :: c :: l).map g.tail=x :: (c :: l).map g.tail:=by rw[List.map_cons,t1]
  rw[hqv,hpv,e1,List.mem_cons]
  constructor
  ·rintro ((r | r) | r)
   ·exact Or.inl r
   ·exact Or.inr (by rw[r,←hct];simp)
   exact Or.inr r
  rintro (r | r)
  ·exact Or.inl (Or.inl r)
  exact Or.inr r
 ·rw[hqd] at hv;exact (List.mem_filter.1 hv).1
 rw[hqd,List.mem_filter,Bool.or_eq_true,decide_eq_true_iff,decide_eq_true_iff,hpe,List.mem_singleton]
 refine and_congr Iff.rfl ?_
 have e1:(2*e0 :: c :: l).map (· / 2)=e0 :: (c :: l).map (· / 2):=by
  rw[List.map_cons]
  congr 1
  omega
 rw[e1,List.mem_cons]
theorem first_scrap {g:Gr} {b p:Pt} {on:Int→Bool} {w:List Int} {F:List (List Int)} (hb:PartOk g b) (hS:SolidP g b) (hpk:PartOk g p) (hpe:p.e≠[]) (hon:∀ v,on v=true↔v∈p.v) (hsub:∀ v∈p.v,v∈b.v) (hps:∀ e∈p.e,e∈b.e)
  (hw:∀ d∈w,on (g.tail d)=true∧on (g.head d)=true) (hEp:∀ e∈without b.e w,e ∉ p.e) (hF:F.length=2) {c:Scrap} (hm:c∈scraps g on F (without b.e w) [0,1]):ScrOk g b on F c:=by
 obtain⟨l,hl,rfl⟩:=List.mem_map.1 hm
 have hsc:=scJoin_ok g on (without b.e w)
 have hEn:(without b.e w).Nodup:=hb.en.filter _
 have hall:(scJoin g on (without b.e w)).1.all=without b.e w:=by rw[hsc.all,new_all_nodup hEn]
 obtain⟨g1,g2,g3⟩:=groups_mem hsc.ok hl
 rw[hall] at g2
 have lE:∀ e∈l,e∈b.e:=fun e he=>(mem_without.1 (g2 e he)).1
 have hshut:∀ e∈l,∀ f∈b.e,Lk g on e f→f∈l:=fun e he f' hf' hlk=>by
  obtain⟨v,hv,h1,h2⟩:=hlk
  have hfE:f'∈without b.e w:=mem_without.2 ⟨hf',fun d hd r=>by
   rw[←r] at h2
   obtain⟨k1,k2⟩:=hw d hd
   rcases end_head h2 with q | q
   ·rw[q,k1] at hv;cases hv
   rw[q,k2] at hv;cases hv⟩
  exact (g3 e he f').2 (scRel_link (g2 e he) hfE ⟨v,hv,h1,h2⟩)
 refine⟨fun Q hQ hh e he f' hf'=>?_,hshut,lE,rfl,scrap_two hS hpk hpe hon hsub hps g1 lE (fun e he=>hEp e (g2 e he)) hshut,?_,fun i=>?_⟩
 ·have:=scRel_least (g:=g) (on:=on) (E:=without b.e w) (Q:=fun x y=>(x∈l∧y∈l∧Q x y)∨(x ∉ l∧y ∉ l)) ⟨fun x=>by
    by_cases q:x∈l
    ·exact Or.inl ⟨q,q,hQ.refl x⟩
    ·exact Or.inr ⟨q,q⟩,fun {x y} q=>by
    rcases q with ⟨q1,q2,q3⟩ | ⟨q1,q2⟩
    ·exact Or.inl ⟨q2,q1,hQ.symm q3⟩
    ·exact Or.inr ⟨q2,q1⟩,fun {x y z} q r=>by
    rcases q with ⟨q1,q2,q3⟩ | ⟨q1,q2⟩ <;> rcases r with ⟨r1,r2,r3⟩ | ⟨r1,r2⟩
    ·exact Or.inl ⟨q1,r2,hQ.trans q3 r3⟩
    ·exact absurd q2 r1
    ·exact absurd r1 q2
    ·exact Or.inr ⟨q1,r2⟩⟩ (fun x hx y hy hlk=>by
    by_cases q:x∈l
    ·have hy2:=(g3 x q y).2 (scRel_link hx hy hlk)
     exact Or.inl ⟨q,hy2,hh x q y hy2 hlk⟩
    refine Or.inr ⟨q,fun r=>q ((g3 y r x).2 (scRel_link hy hx ?_))⟩
    obtain⟨v,hv,h1,h2⟩:=hlk
    exact⟨v,hv,h2,h1⟩) ((g3 e he f').1 hf')
  rcases this with r | r
  ·exact r.2.2
  exact absurd he r.1
 ·show (fitF g F (endsOf g on l) [0,1]).Nodup
  unfold fitF
  exact (show [(0:Int),1].Nodup by simp).filter _
 show i∈fitF g F (endsOf g on l) [0,1]↔_
 rw[mem_fitF]
 constructor
 ·rintro ⟨h1,h2⟩
  rcases List.mem_cons.1 h1 with r | r
  ·exact⟨by omega,by omega,h2⟩
  have:=List.mem_singleton.1 r
  exact⟨by omega,by omega,h2⟩
 rintro ⟨h1,h2,h3⟩
 refine⟨?_,h3⟩
 rw[List.mem_cons,List.mem_singleton]
 omega
theorem begin_ok {g:Gr} {b:Pt} (hbe:b.err g=0) (hS:SolidP g b) (h2:2≤b.e.length)
  (hpo:PathOk g b):∃ p turn,SkOk g b (beginF g b) p turn∧(beginF g b).left+2≤b.e.length:=by
 have hbk:=Pt.ok_of_err hbe
 obtain⟨e0,e1,l,hl⟩:∃ e0 e1 l,b.e=e0 :: e1 :: l:=by
  match hb:b.e with
  | []=>rw[hb] at h2;simp at h2
  | [_]=>rw[hb] at h2;simp at h2
  | e0 :: e1 :: l=>exact⟨e0,e1,l,rfl⟩
 have hg0:b.e.getD 0 0=e0:=by rw[hl];rfl
 obtain⟨k1,k2,k3⟩:=ring_ok hbe (by omega) hpo.1 hpo.2 (by rw[hg0];exact ring_path hbk hS hl)
 have hrg:ringOf g b=2*e0 :: (pathF g (dropE b e0) (g.at e0).2 (g.at e0).1).getD []:=by unfold ringOf;rw[hg0]
 have h0:e0∈b.e:=by rw[hl];simp
 obtain⟨t1,t2⟩:=tail_even g e0
 rw[hg0,hrg] at k1 k3
 rw[hrg] at k2
 unfold beginF
 rw[hrg]
 generalize (pathF g (dropE b e0) (g.at e0).2 (g.at e0).1).getD []=w at *
 obtain⟨p,turn,f1,f2,f3,f4⟩:=ring_faces hbe h0 (solid_loop hbk hS hl e0 h0) (by have:=k1.2;rw[t2] at this;exact this) k2 k3
 have hpk:=Pt.ok_of_err f1.pe
 have hon:∀ v,hasV g (2*e0 :: w) v=true↔v∈p.v:=fun v=>by
  rw[hasV_iff,f2,List.mem_map]
 have hpe:p.e≠[]:=List.ne_nil_of_mem ((f4 e0).2 ⟨h0,by rw[List.map_cons,show 2*e0 / 2=e0 by omega];simp⟩)
 have hwn:∀ e∈without b.e (2*e0 :: w),e ∉ p.e:=fun e he hp=>by
  obtain⟨d,hd,r⟩:=List.mem_map.1 ((f4 e).1 hp).2
  exact (mem_without.1 he).2 d hd r
 have hse:=scraps_edges (g:=g) (on:=hasV g (2*e0 :: w)) (F:=[2*e0 :: w,twins (2*e0 :: w)]) (ks:=[0,1]) (E:=without b.e (2*e0 :: w)) (hbk.en.filter _)
 have hring:∀ d∈2*e0 :: w,d∈p.darts:=fun d hd=>f1.all.mem_iff.1 (by rw[List.flatten_cons];exact List.mem_append_left _ hd)
 have hpart:(p.e++(scraps g (hasV g (2*e0 :: w)) [2*e0 :: w,twins (2*e0 :: w)] (without b.e (2*e0 :: w)) [0,1]).flatMap (·.edges)).Perm b.e:=by
  refine (hse.append_left p.e).trans ((List.perm_ext_iff_of_nodup ?_ hbk.en).2 fun e=>?_)
  ·rw[List.nodup_append]
   exact⟨hpk.en,hbk.en.filter _,fun u hu v hv r=>hwn v hv (r ▸ hu)⟩
  rw[List.mem_append,mem_without,f4]
  constructor
  ·rintro (r | r)
   ·exact r.1
   exact r.1
  intro r
  by_cases q:e∈(2*e0 :: w).map (· / 2)
  ·exact Or.inl ⟨r,q⟩
  exact Or.inr ⟨r,fun d hd s=>q (List.mem_map.2 ⟨d,hd,s⟩)⟩
 refine⟨p,turn,⟨f1,hon,f3,hpe,hpart,fun c hc=>?_⟩,?_⟩
 ·exact first_scrap hbk hS hpk hpe hon f3 (fun e he=>((f4 e).1 he).1) (fun d hd=>⟨(hon _).2 (hpk.tail_mem (hring d hd)).1,(hon _).2 (hpk.tail_mem (hring d hd)).2⟩) hwn rfl hc
 have h0p:e0∈p.e:=(f4 e0).2 ⟨h0,by rw[List.map_cons,show 2*e0 / 2=e0 by omega];simp⟩
 have hends:=hpk.ends e0 h0p
 have hlo:=solid_loop hbk hS hl e0 h0
 have hv2:2≤p.v.length:=by
  have:[(g.at e0).1,(g.at e0).2].length≤p.v.length:=len_le_of_sub (by simpa using hlo) fun x hx=>by
   rcases List.mem_cons.1 hx with r | r
   ·rw[r];exact hends.1
   rw[List.mem_singleton.1 r];exact hends.2
  simpa using this
 have heu:=f1.euler
 have hpl:=hpart.length_eq
 rw[List.length_append] at hpl
 simp only[List.length_cons,List.length_nil] at heu
 unfold Sk.left
 show ((scraps g (hasV g (2*e0 :: w)) [2*e0 :: w,twins (2*e0 :: w)] (without b.e (2*e0 :: w)) [0,1]).flatMap (·.edges)).length+2≤b.e.length
 omega
def skRun (g:Gr) (V:List Int):Nat→Sk→Option Sk
 | 0,s=>some s
 | n+1,s=>if s.rest.isEmpty then some s else match choose s.rest with
  | none=>none
  | some i=>skRun g V n (s.put g V i)
theorem skRun_end {g:Gr} {V:List Int} {n:Nat} {s:Sk} (h:s.rest=[]):skRun g V n s=some s:=by
 cases n with
 | zero=>rfl
 | succ n=>show (if s.rest.isEmpty then _ else _)=_;rw[h];rfl
theorem skRun_none {g:Gr} {V:List Int} {n:Nat} {s:Sk} (h:s.rest≠[]) (hc:choose s.rest=none):skRun g V (n+1) s=none:=by
 show (if s.rest.isEmpty then _ else _)=_
 rw[if_neg (by simpa using h),hc]
theorem skRun_some {g:Gr} {V:List Int} {n i:Nat} {s:Sk} (h:s.rest≠[]) (hc:choose s.rest=some i):skRun g V (n+1) s=skRun g V n (s.put g V i):=by
 show (if s.rest.isEmpty then _ else _)=_
 rw[if_neg (by simpa using h),hc]
theorem left_pos {g:Gr} {b p:Pt} {s:Sk} {turn:List (List Int)} (h:SkOk g b s p turn) (hr:s.rest≠[]):0<s.left:=by
 obtain⟨c,hc⟩:=List.exists_mem_of_ne_nil _ hr
 have hk:=h.scr c hc
 have h2:=hk.two
 obtain⟨v,hv⟩:=List.exists_mem_of_length_pos (l:=c.ends) (by omega)
 rw[hk.ends] at hv
 obtain⟨-,e,he,-⟩:=mem_endsOf.1 hv
 unfold Sk.left
 exact List.length_pos_of_mem (List.mem_flatMap.2 ⟨c,hc,he⟩)
theorem drawn_whole {g:Gr} {b p:Pt} {s:Sk} {turn:List (List Int)} (hbe:b.err g=0) (hS:SolidP g b) (h:SkOk g b s p turn) (hr:s.rest=[]):Faces g b turn s.faces:=by
 have hbk:=Pt.ok_of_err hbe
 have hpart:=h.part
 rw[hr,List.flatMap_nil,List.append_nil] at hpart
 obtain⟨-,b2,b3,-⟩:=Pt.err_ok hbe
 obtain⟨-,p2,p3,-⟩:=Pt.err_ok h.faces.pe
 have he:p.e=b.e:=rise_ext (rises_pair p3) (rises_pair b3) fun x=>hpart.mem_iff
 have hd:p.darts=b.darts:=by unfold Pt.darts;rw[he]
 have hv:p.v=b.v:=rise_ext (rises_pair p2) (rises_pair b2) fun x=>⟨h.sub x,fun hx=>by
  obtain⟨d,h1,h2⟩:=hS.2 x hx
  rw[←hd] at h1
  rw[←h2]
  exact ((Pt.ok_of_err h.faces.pe).tail_mem h1).1⟩
 have hpb:p=b:=by
  cases p;cases b
  simp only at he hv
  rw[he,hv]
 rw[←hpb]
 exact h.faces
def aftIn (f:List Int):Nat→List Int→List Int
 | 0,L=>L
 | i+1,L=>(aftIn f i L).set (f.getD ((i+1) % f.length) 0).toNat (twin (f.getD i 0))
def aftOut (F:List (List Int)):Nat→List Int→List Int
 | 0,L=>L
 | k+1,L=>aftIn (F.getD k []) (F.getD k []).length (aftOut F k L)
def wrs (W:List (Int × Int)) (L:List Int):List Int:=W.foldl (fun L p=>L.set p.1.toNat p.2) L
theorem wrs_old:∀ {W:List (Int × Int)} {L:List Int} {n:Nat},(∀ p∈W,p.1.toNat≠n)→(wrs W L).getD n 0=L.getD n 0
 | [],_,_,_=>rfl
 | p :: W,L,n,h=>by
  show (wrs W (L.set p.1.toNat p.2)).getD n 0=_
  rw[wrs_old fun q hq=>h q (List.mem_cons_of_mem _ hq)]
  simp[List.getD,List.getElem?_set_ne (h p (by simp))]
theorem wrs_new:∀ {W:List (Int × Int)} {L:List Int} {x y:Int},(W.map (·.1)).Nodup→(∀ p∈W,0≤p.1)→(x,y)∈W→x.toNat<L.length→(wrs W L).getD x.toNat 0=y
 | [],_,_,_,_,_,h,_=>by cases h
 | p :: W,L,x,y,hn,h0,hm,hl=>by
  rw[List.map_cons,List.nodup_cons] at hn
  show (wrs W (L.set p.1.toNat p.2)).getD x.toNat 0=_
  rcases List.mem_cons.1 hm with r | r
  ·subst r
   rw[wrs_old fun q hq e=>hn.1 (List.mem_map.2 ⟨q,hq,by
    have h1:=h0 q (List.mem_cons_of_mem _ hq)
    have h2:=h0 _ (List.mem_cons_self (a:=(x,y)) (l:=W))
    simp only at h2 e
    omega⟩)]
   simp[List.getD,hl]
  exact wrs_new hn.2 (fun q hq=>h0 q (List.mem_cons_of_mem _ hq)) r (by rwa[List.length_set])
theorem wrs_append (V W:List (Int × Int)) (L:List Int):wrs (V++W) L=wrs W (wrs V L):=by unfold wrs;rw[List.foldl_append]
theorem ring_nth {p:Int→Int} {f:List Int} (h:Ring p f) {i:Nat} (hi:i<f.length):f.getD ((i+1) % f.length) 0=p (f.getD i 0):=by
 cases f with
 | nil=>simp at hi
 | cons x l =>
  have hm:=Trail.map (show Trail p x l x from h)
  have h1:p ((x :: l).getD i 0)=((x :: l).map p).getD i 0:=by
   simp only[List.getD,List.getElem?_map,List.getElem?_eq_getElem hi,Option.map_some,Option.getD_some]
  rw[h1,hm]
  rw[List.length_cons] at hi
  by_cases e:i=l.length
  ·subst e
   rw[List.length_cons,Nat.mod_self]
   simp[List.getD]
  rw[List.length_cons,Nat.mod_eq_of_lt (by omega)]
  simp[List.getD,List.getElem?_append_left (show i<l.length by omega)]
theorem aftIn_wrs {p:Int→Int} {f:List Int} (h:Ring p f) (L:List Int):∀ i,i≤f.length→aftIn f i L=wrs ((f.take i).map fun d=>(p d,twin d)) L
 | 0,_=>rfl
 | i+1,hi=>by
  rw[aftIn,aftIn_wrs h L i (by omega),ring_nth h (by omega)]
  have e:f.take (i+1)=f.take i++[f.getD i 0]:=by
   rw[List.take_add_one]
   simp[List.getD,show i<f.length by omega]
  rw[e,List.map_append,wrs_append]
  rfl
theorem aftOut_wrs {p:Int→Int} {F:List (List Int)} (h:∀ f∈F,Ring p f) (L:List Int):∀ k,k≤F.length→aftOut F k L=wrs ((F.take k).flatten.map fun d=>(p d,twin d)) L
 | 0,_=>rfl
 | k+1,hk=>by
  have hm:F.getD k []∈F:=by simp[List.getD,show k<F.length by omega]
  rw[aftOut,aftOut_wrs h L k (by omega),aftIn_wrs (h _ hm) _ _ (Nat.le_refl _),List.take_length]
  have e:F.take (k+1)=F.take k++[F.getD k []]:=by
   rw[List.take_add_one]
   simp[List.getD,show k<F.length by omega]
  rw[e,List.flatten_append,List.map_append,wrs_append]
  simp
def afterF (m:Nat) (F:List (List Int)):List Int:=aftOut F F.length (List.replicate m 0)
theorem afterF_at {g:Gr} {b:Pt} {turn F:List (List Int)} {m:Nat} (h:Faces g b turn F) (hm:∀ d∈b.darts,0≤d∧d.toNat<m) {d:Int} (hd:d∈b.darts):(afterF m F).getD (nextDart g turn d).toNat 0=twin d:=by
 have hin:∀ x,x∈F.flatten↔x∈b.darts:=fun x=>h.all.mem_iff
 have hnext:∀ x∈F.flatten,nextDart g turn x∈b.darts:=fun x hx=>(hin _).1 (h.rings.next hx)
 unfold afterF
 rw[aftOut_wrs h.rings.ring _ _ (Nat.le_refl _),List.take_length]
 refine wrs_new ?_ (fun p hp=>?_) (List.mem_map.2 ⟨d,(hin d).2 hd,rfl⟩) ?_
 ·rw[List.map_map]
  show (F.flatten.map (nextDart g turn)).Nodup
  exact List.pairwise_map.2 (h.rings.nodup.imp_of_mem fun {x y} hx hy hne e=>hne (h.rings.inj x hx y hy e))
 ·obtain⟨x,hx,rfl⟩:=List.mem_map.1 hp
  exact (hm _ (hnext x hx)).1
 rw[List.length_replicate]
 exact (hm _ (hnext d ((hin d).2 hd))).2
theorem after_row {g:Gr} {b:Pt} {turn F:List (List Int)} {m:Nat} (h:Faces g b turn F) (hm:∀ d∈b.darts,0≤d∧d.toNat<m) {v:Int} (hv:0≤v∧v<g.n) {k:Nat} (hk:k<(first (turnAt turn v)).length) :
  (afterF m F).getD ((first (turnAt turn v)).getD k 0).toNat 0=(first (turnAt turn v)).getD ((k+1) % (first (turnAt turn v)).length) 0:=by
 have hbk:=Pt.ok_of_err h.pe
 have hln:=h.to_.nodup v
 obtain⟨R,hR⟩:∃ R,first (turnAt turn v)=R:=⟨_,rfl⟩
 have hRn:R.Nodup:=by rw[←hR];exact (first_perm _).nodup_iff.2 hln
 have hRm:∀ x,x∈R↔x∈turnAt turn v:=fun x=>by rw[←hR];exact (first_perm _).mem_iff
 have hah:∀ x∈R,ahead R x=ahead (turnAt turn v) x:=fun x hx=>by rw[←hR];exact ahead_begun hln x ((hRm x).1 hx)
 rw[hR] at hk ⊢
 have hlt:(k+1) % R.length<R.length:=Nat.mod_lt _ (by omega)
 have hxin:R.getD ((k+1) % R.length) 0∈R:=getD_mem hlt
 obtain⟨hxd,hxt⟩:=(h.to_.mem v hv.1 hv.2 _).1 ((hRm _).1 hxin)
 have h1:=afterF_at h hm (twin_mem hxd)
 rw[twin_twin] at h1
 have h2:nextDart g turn (twin (R.getD ((k+1) % R.length) 0))=R.getD k 0:=by
  unfold nextDart before
  rw[twin_twin,hxt,←hah _ hxin]
  unfold ahead
  rw[idxOf_at hRn hlt]
  congr 1
  by_cases e:k+1=R.length
  ·rw[e,Nat.mod_self,Nat.zero_add,Nat.mod_eq_of_lt (by omega)]
   omega
  rw[Nat.mod_eq_of_lt (show k+1<R.length by omega),show k+1+R.length - 1=k+R.length by omega,Nat.add_mod_right,Nat.mod_eq_of_lt hk]
 rw[h2] at h1
 exact h1
theorem first_least {g:Gr} {b:Pt} {turn:List (List Int)} (ht:TurnsOk g b turn) (_hb:PartOk g b) (hr:b.e.Pairwise (·<·)) {v:Int} (hv:0≤v∧v<g.n) {j:Nat} (hj:j<b.darts.length) (htl:g.tail (b.darts.getD j 0)=v) (h0:dartsTo g b v j=[]) :
  ∃ l,first (turnAt turn v)=b.darts.getD j 0 :: l:=by
 have hd:b.darts.getD j 0∈turnAt turn v:=(ht.mem v hv.1 hv.2 _).2 ⟨getD_mem hj,htl⟩
 obtain⟨x,m,h1,h2⟩:=first_cons (l:=turnAt turn v) fun e=>by rw[e] at hd;cases hd
 refine⟨m,?_⟩
 rw[h1]
 have h3:=h2 _ hd
 have hx:x∈turnAt turn v:=by
  have:x∈first (turnAt turn v):=by rw[h1];simp
  exact (first_perm _).mem_iff.1 this
 obtain⟨hxd,hxt⟩:=(ht.mem v hv.1 hv.2 _).1 hx
 obtain⟨i,hi,hxi⟩:=mem_getD hxd
 have hji:j≤i:=by
  refine Nat.le_of_not_lt fun q=>?_
  have:x∈dartsTo g b v j:=by
   unfold dartsTo
   rw[List.mem_filter]
   refine⟨?_,decide_eq_true hxt⟩
   rw[←hxi]
   simp only[List.getD,List.getElem?_eq_getElem hi,Option.getD_some]
   rw[List.mem_iff_getElem]
   exact⟨i,by rw[List.length_take];omega,by rw[List.getElem_take]⟩
  rw[h0] at this
  cases this
 have hle:b.darts.getD j 0≤x:=by
  rw[←hxi]
  by_cases e:j=i
  ·rw[e];exact Int.le_refl _
  have hp:=darts_pair hr
  have:=(List.pairwise_iff_getElem.1 hp) j i hj hi (by omega)
  simp only[List.getD,List.getElem?_eq_getElem hi,List.getElem?_eq_getElem hj,Option.getD_some]
  omega
 rw[show x=b.darts.getD j 0 by omega]
def gK:Gr:=⟨5,[(0,1),(0,2),(0,3),(0,4),(1,2),(1,3),(1,4),(2,3),(2,4),(3,4)]⟩
def pK:Pt:=⟨[0,1,2,3,4],[0,1,2,3,4,5,6,7,8,9]⟩
def gW:Gr:=⟨2,[(0,1),(0,1)]⟩
def pW:Pt:=⟨[0,1],[0,1]⟩
def tW:List (List Int):=[[0,2],[1,3]]
theorem errK:pK.err gK=0:=by decide
theorem errW:pW.err gW=0:=by decide
theorem flat_three:∀ {F:List (List Int)},(∀ f∈F,3≤f.length)→3*F.length≤F.flatten.length
 | [],_=>by simp
 | f :: F,h=>by
  have ih:=flat_three (F:=F) fun x hx=>h x (List.mem_cons_of_mem _ hx)
  have:=h f (by simp)
  rw[List.flatten_cons,List.length_append,List.length_cons]
  omega
theorem ahead_self {l:List Int} {x:Int} (hn:l.Nodup) (hx:x∈l) (h:ahead l x=x):l.length≤1:=by
 have h1:l.idxOf x<l.length:=List.idxOf_lt_length_iff.2 hx
 have h2:l[l.idxOf x]=x:=List.getElem_idxOf h1
 unfold ahead at h
 have h3:(l.idxOf x+l.length - 1) % l.length<l.length:=Nat.mod_lt _ (by omega)
 rw[show l.getD ((l.idxOf x+l.length - 1) % l.length) 0=l[(l.idxOf x+l.length - 1) % l.length] by simp[List.getD,h3]] at h
 have h4:=(List.getElem_inj hn).1 (h.trans h2.symm)
 rcases Nat.eq_zero_or_pos (l.idxOf x) with r | r
 ·rw[r] at h4
  rw[Nat.mod_eq_of_lt (by omega)] at h4
  omega
 rw[show l.idxOf x+l.length - 1=(l.idxOf x - 1)+l.length by omega,Nat.add_mod_right,Nat.mod_eq_of_lt (by omega)] at h4
 omega
theorem next_tail5 {g:Gr} {p:Pt} {turn:List (List Int)} (hp:PartOk g p) (ht:TurnsOk g p turn) {d:Int} (hd:d∈p.darts):g.tail (nextDart g turn d)=g.head d∧twin d∈turnAt turn (g.head d):=by
 have h1:=hp.tail_mem hd
 have h2:=hp.vr _ h1.2
 have hm:twin d∈turnAt turn (g.head d):=(ht.mem _ h2.1 h2.2 _).2 ⟨twin_mem hd,tail_twin g d⟩
 refine⟨?_,hm⟩
 unfold nextDart before
 rw[tail_twin]
 exact ((ht.mem _ h2.1 h2.2 _).1 (ahead_mem (ht.nodup _) hm)).2
theorem five_not {turn F:List (List Int)}:¬ Faces gK pK turn F:=by
 intro h
 have hpk:=Pt.ok_of_err errK
 have hlen:F.flatten.length=20:=h.all.length_eq.trans (by decide)
 have hF:=h.euler
 have hv:pK.v.length=5:=rfl
 have he:pK.e.length=10:=rfl
 have h3:∀ f∈F,3≤f.length:=fun f hf=>by
  have hr:=h.rings.ring f hf
  have hm:∀ d∈f,d∈pK.darts:=fun d hd=>h.all.mem_iff.1 (List.mem_flatten.2 ⟨f,hf,hd⟩)
  match f,hr,hm with
  | [d],hr,hm =>
   have hd:=hm d (by simp)
   have h1:=(next_tail5 hpk h.to_ hd).1
   have hr':nextDart gK turn d=d:=hr
   rw[hr'] at h1
   exact absurd h1 ((show ∀ d∈pK.darts,gK.tail d≠gK.head d by decide) d hd)
  | [d,e],hr,hm =>
   have hd:=hm d (by simp)
   have he:=hm e (by simp)
   obtain⟨r1,r2⟩:nextDart gK turn d=e∧nextDart gK turn e=d:=hr
   have h1:=next_tail5 hpk h.to_ hd
   have h2:=(next_tail5 hpk h.to_ he).1
   rw[r1] at h1
   rw[r2] at h2
   have h4:=(show ∀ d∈pK.darts,∀ e∈pK.darts,gK.tail e=gK.head d→gK.tail d=gK.head e→e=twin d by decide) d hd e he h1.1 h2
   have h5:ahead (turnAt turn (gK.head d)) (twin d)=twin d:=by
    have h6:nextDart gK turn d=twin d:=r1.trans h4
    unfold nextDart before at h6
    rwa[tail_twin] at h6
   have h7:=ahead_self (h.to_.nodup _) h1.2 h5
   have hvr:=hpk.vr _ (hpk.tail_mem hd).2
   have h8:(turnAt turn (gK.head d)).Perm (dartsAt gK pK (gK.head d)):=(List.perm_ext_iff_of_nodup (h.to_.nodup _) (dartsAt_nodup hpk.en _)).2 fun x=>by
    rw[h.to_.mem _ hvr.1 hvr.2,mem_dartsAt]
   have h9:=(show ∀ d∈pK.darts,(dartsAt gK pK (gK.head d)).length=4 by decide) d hd
   have:=h8.length_eq
   omega
  | _ :: _ :: _ :: l,_,_=>simp
 have:=flat_three h3
 omega
theorem two_row {l:List Int} {a b:Int} (hab:a<b) (hn:l.Nodup) (hm:∀ d,d∈l↔d=a∨d=b):first l=[a,b]:=by
 have hp:l.Perm [a,b]:=(List.perm_ext_iff_of_nodup hn (by simp;omega)).2 fun d=>by rw[hm];simp
 have hf:(first l).Perm [a,b]:=(first_perm l).trans hp
 have hl:=hf.length_eq
 have hne:l≠[]:=fun e=>by rw[e] at hp;have:=hp.length_eq;simp at this
 obtain⟨x,m,h1,h2⟩:=first_cons hne
 rw[h1] at hf hl
 have ha:=h2 a ((hm a).2 (Or.inl rfl))
 have hx:x=a:=by
  have:=hf.mem_iff.1 (show x∈x :: m by simp)
  rcases List.mem_cons.1 this with r | r
  ·exact r
  have:=List.mem_singleton.1 r;omega
 rw[hx] at hf h1
 rw[h1,(List.perm_singleton.1 (List.Perm.cons_inv hf))]
theorem two_turns {turn:List (List Int)} (h:TurnsOk gW pW turn):turn.map first=tW:=by
 have hl:=h.len
 have h0:=two_row (a:=0) (b:=2) (by decide) (h.nodup 0) (fun d=>by
  rw[h.mem 0 (by decide) (by decide)]
  constructor
  ·rintro ⟨h1,h2⟩
   exact (show ∀ d∈pW.darts,gW.tail d=0→d=0∨d=2 by decide) d h1 h2
  rintro (r | r) <;> rw[r] <;> exact⟨by decide,by decide⟩)
 have h1:=two_row (a:=1) (b:=3) (by decide) (h.nodup 1) (fun d=>by
  rw[h.mem 1 (by decide) (by decide)]
  constructor
  ·rintro ⟨h1,h2⟩
   exact (show ∀ d∈pW.darts,gW.tail d=1→d=1∨d=3 by decide) d h1 h2
  rintro (r | r) <;> rw[r] <;> exact⟨by decide,by decide⟩)
 match turn,hl,h0,h1 with
 | [x,y],_,h0,h1 =>
  have h0:first x=[0,2]:=h0
  have h1:first y=[1,3]:=h1
  show [first x,first y]=tW
  rw[h0,h1]
  rfl
 | [],hl,_,_=>cases hl
 | [_],hl,_,_=>cases hl
 | _ :: _ :: _ :: l,hl,_,_=>simp[gW] at hl;omega
theorem solid_near {g:Gr} {p:Pt} {e0:Int} {l:List Int} (_hp:PartOk g p) (he:p.e=e0 :: l) (h1:∀ e∈p.e,¬ (g.at e).1=(g.at e).2) (h2:∀ e∈p.e,∀ v∈p.v,off g v e0=off g v e∨Near g p (off g v e0) (off g v e)) (h3:∀ v∈p.v,∃ d∈p.darts,g.tail d=v):SolidP g p:=by
 refine⟨⟨e0,l,he,fun e hem v hv=>?_⟩,h3⟩
 rintro ⟨hne,q | q | q⟩
 ·exact h1 e0 (by rw[he];simp) (q.1.trans q.2.symm)
 ·exact h1 e hem (q.1.trans q.2.symm)
 refine q ?_
 rcases h2 e hem v hv with r | r
 ·rw[r];exact .here
 exact .step .here r (off_ne fun s=>h1 e hem (s.1.trans s.2.symm))
theorem solidK:SolidP gK pK:=solid_near (Pt.ok_of_err errK) rfl (by decide) (show ∀ e∈pK.e,∀ v∈pK.v,off gK v 0=off gK v e∨∃ x∈pK.e,(gK.at x=(off gK v 0,off gK v e)∨gK.at x=(off gK v e,off gK v 0)) by decide) (by decide)
theorem solidW:SolidP gW pW:=solid_near (Pt.ok_of_err errW) rfl (by decide) (show ∀ e∈pW.e,∀ v∈pW.v,off gW v 0=off gW v e∨∃ x∈pW.e,(gW.at x=(off gW v 0,off gW v e)∨gW.at x=(off gW v e,off gW v 0)) by decide) (by decide)
end Go.Proofs.Ytbkjljffnkdcjaa.Plain
