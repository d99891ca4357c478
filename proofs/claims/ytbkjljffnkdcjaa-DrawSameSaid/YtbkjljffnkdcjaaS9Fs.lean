/- Faces that are cycles; a way is put into one. No program here. -/
import Derived.Test.YtbkjljffnkdcjaaS9DropP
namespace Go.Proofs.Ytbkjljffnkdcjaa.Plain
theorem nodup_of_map {f:Int→Int} {l:List Int} (h:(l.map f).Nodup):l.Nodup:=(List.pairwise_map.1 h).imp fun k e=>k (by rw[e])
theorem nodup_rev {l:List Int}:l.reverse.Nodup↔l.Nodup:=(List.reverse_perm l).nodup_iff
structure Faces (g:Gr) (p:Pt) (turn:List (List Int)) (F:List (List Int)):Prop where
 pe:p.err g=0
 to_:TurnsOk g p turn
 rings:Rings (nextDart g turn) F
 all:F.flatten.Perm p.darts
 simple:∀ f∈F,(f.map g.tail).Nodup
 full:∀ v∈p.v,∃ d∈p.darts,g.tail d=v
 euler:p.v.length+F.length=2+p.e.length
 joined:∀ u∈p.v,∀ v∈p.v,Come g p (-1) u v
def Link (g:Gr):Int→List Int→Int→Prop
 | a,[],z=>a=z
 | a,d :: w,z=>g.tail d=a∧Link g (g.head d) w z
theorem Link.append {g:Gr} {z:Int} {m:List Int}:∀ {l:List Int} {a:Int},Link g a (l++m) z↔∃ b,Link g a l b∧Link g b m z
 | [],a=>⟨fun h=>⟨a,rfl,h⟩,fun ⟨b,h1,h2⟩=>by cases h1;exact h2⟩
 | d :: l,a=>by
  have ih:=Link.append (g:=g) (z:=z) (m:=m) (l:=l) (a:=g.head d)
  constructor
  ·rintro ⟨h1,h2⟩
   obtain⟨b,h3,h4⟩:=ih.1 h2
   exact⟨b,⟨h1,h3⟩,h4⟩
  rintro ⟨b,⟨h1,h3⟩,h4⟩
  exact⟨h1,ih.2 ⟨b,h3,h4⟩⟩
structure WayIn (g:Gr) (p:Pt) (w:List Int) (a z:Int):Prop where
 link:Link g a w z
 ne:a≠z
 av:a∈p.v
 zv:z∈p.v
 vnew:∀ d∈w.tail,g.tail d ∉ p.v
 vn:(w.map g.tail).Nodup
 en:(w.map (· / 2)).Nodup
 enew:∀ d∈w,d / 2 ∉ p.e
structure Plus (g:Gr) (p:Pt) (w:List Int) (q:Pt):Prop where
 qe:q.err g=0
 v:∀ u,u∈q.v↔u∈p.v∨u∈w.map g.tail
 e:∀ u,u∈q.e↔u∈p.e∨u∈w.map (· / 2)
structure TurnPlus (g:Gr) (p:Pt) (turn:List (List Int)) (w:List Int) (x y:Int) (turn':List (List Int)):Prop where
 first:∀ d l,w=d :: l→before g turn' d=x
 last:∀ d l,w=l++[d]→before g turn' (twin d)=y
 old:∀ u∈p.darts,before g turn' u=if before g turn u=x then w.headD 0 else if before g turn u=y then twin (w.getLastD 0) else before g turn u
theorem trail_pairs {q:Int→Int} {z:Int}:∀ {w:List Int} {c:Int},(∀ l d e m,c :: w=l++d :: e :: m→q d=e)→(∀ l d,c :: w=l++[d]→q d=z)→Trail q c w z
 | [],c,_,h=>h [] c rfl
 | d :: w,c,h1,h2=>⟨h1 [] c d w rfl,trail_pairs (fun l a b m e=>h1 (c :: l) a b m (by rw[e];rfl)) (fun l a e=>h2 (c :: l) a (by rw[e];rfl))⟩
theorem twins_pairs {q:Int→Int}:∀ {w:List Int} {c x:Int},(∀ l d e m,c :: w=l++d :: e :: m→q (twin e)=twin d)→q (twin c)=x→∃ e t,twins (c :: w)=e :: t∧Trail q e t x
 | [],c,x,_,h=>⟨twin c,[],rfl,h⟩
 | d :: w,c,x,h1,h2=>by
  obtain⟨e,t,h3,h4⟩:=twins_pairs (q:=q) (w:=w) (c:=d) (x:=twin c) (fun l a b m e=>h1 (c :: l) a b m (by rw[e];rfl)) (h1 [] c d w rfl)
  refine⟨e,t++[twin c],?_,Trail.append.2 ⟨h4,h2⟩⟩
  have:twins (c :: d :: w)=twins (d :: w)++[twin c]:=by simp[twins]
  rw[this,h3];rfl
theorem link_pair {g:Gr} {z:Int}:∀ {l:List Int} {a d e:Int} {m:List Int},Link g a (l++d :: e :: m) z→g.head d=g.tail e
 | [],_a,_d,_e,_m,h=>h.2.1.symm
 | _c :: l,_a,_d,_e,_m,h=>link_pair (l:=l) h.2
theorem link_last {g:Gr} {z:Int}:∀ {l:List Int} {a d:Int},Link g a (l++[d]) z→g.head d=z
 | [],_a,_d,h=>h.2
 | _c :: l,_a,_d,h=>link_last (l:=l) h.2
theorem twins_mem {w:List Int} {y:Int}:y∈twins w↔twin y∈w:=by
 unfold twins
 rw[List.mem_reverse,List.mem_map]
 constructor
 ·rintro ⟨d,h,rfl⟩;rw[twin_twin];exact h
 intro h;exact⟨_,h,twin_twin y⟩
theorem twin_ne (d:Int):twin d≠d:=by unfold twin;split <;> omega
theorem div_twin {d e:Int} (h:d / 2=e / 2):d=e∨d=twin e:=by unfold twin;split <;> omega
theorem twins_nodup {w:List Int} (h:(w.map (· / 2)).Nodup):(w++twins w).Nodup:=by
 have hw:w.Nodup:=nodup_of_map h
 rw[List.nodup_append]
 refine⟨hw,?_,fun a ha b hb e=>?_⟩
 ·unfold twins
  rw[nodup_rev]
  exact List.Pairwise.map _ (fun a b hab e=>hab (by rw[←twin_twin a,e,twin_twin])) hw
 subst e
 have hb:=twins_mem.1 hb
 have:twin a=a:=inj_of_map h _ hb _ ha (twin_div a)
 exact twin_ne a this
theorem WayIn.cons {g:Gr} {p:Pt} {w:List Int} {a z:Int} (h:WayIn g p w a z):∃ c l,w=c :: l:=by
 cases w with
 | nil=>exact absurd h.link h.ne
 | cons c l=>exact⟨c,l,rfl⟩
theorem heads_tails {g:Gr} {z:Int}:∀ {w:List Int} {a c:Int},Link g a (c :: w) z→(c :: w).map g.head=w.map g.tail++[z]
 | [],a,c,h=>by have:g.head c=z:=h.2;simp[this]
 | d :: w,a,c,h=>by
  have ih:=heads_tails (w:=w) h.2
  have:g.head c=g.tail d:=h.2.1.symm
  rw[List.map_cons,ih,this];rfl
variable {g : Gr} {p q : Pt} {turn turn' : List (List Int)} {w : List Int} {a z x y : Int}
theorem WayIn.dart_new (h:WayIn g p w a z) {d:Int} (hd:d∈w):d ∉ p.darts∧twin d ∉ p.darts :=
 ⟨fun q=>h.enew d hd (mem_darts.1 q),fun q=>h.enew d hd (by have:=mem_darts.1 q;rwa[twin_div] at this)⟩
theorem Plus.darts (hq:Plus g p w q) {d:Int}:d∈q.darts↔d∈p.darts∨d∈w∨twin d∈w:=by
 rw[mem_darts,mem_darts,hq.e,List.mem_map]
 constructor
 ·rintro (h | ⟨b,hb,e⟩)
  ·exact Or.inl h
  rcases div_twin e.symm with r | r
  ·rw[r];exact Or.inr (Or.inl hb)
  rw[r,twin_twin];exact Or.inr (Or.inr hb)
 rintro (h | h | h)
 ·exact Or.inl h
 ·exact Or.inr ⟨d,h,rfl⟩
 exact Or.inr ⟨twin d,h,twin_div d⟩
theorem inner_turn (hw:WayIn g p w a z) (hq:Plus g p w q) (hpk:PartOk g p) (ht:TurnsOk g q turn') {l m:List Int} {d e:Int} (hs:w=l++d :: e :: m):before g turn' (twin d)=e∧before g turn' e=twin d:=by
 have hqk:=Pt.ok_of_err hq.qe
 have hde:g.head d=g.tail e:=link_pair (by have:=hw.link;rwa[hs] at this)
 have hew:e∈w:=by rw[hs];simp
 have hdw:d∈w:=by rw[hs];simp
 have het:e∈w.tail:=by rw[hs];cases l <;> simp
 have hvn:=hw.vnew e het
 have hvq:g.tail e∈q.v:=(hq.v _).2 (Or.inr (List.mem_map.2 ⟨e,hew,rfl⟩))
 obtain⟨r1,r2⟩:=hqk.vr _ hvq
 have hm:∀ u,u∈turnAt turn' (g.tail e)↔u=e∨u=twin d:=by
  intro u
  rw[ht.mem _ r1 r2 u,hq.darts]
  constructor
  ·rintro ⟨h1,h2⟩
   rcases h1 with h1 | h1 | h1
   ·exact absurd (h2 ▸ (hpk.tail_mem h1).1) hvn
   ·exact Or.inl (inj_of_map hw.vn _ h1 _ hew h2)
   refine Or.inr ?_
   have h3:g.head (twin u)=g.tail u:=by rw[←tail_twin,twin_twin]
   have hz:g.tail e≠z:=fun r=>hvn (by rw[r];exact hw.zv)
   obtain⟨l2,m2,hs2⟩:=List.append_of_mem h1
   cases m2 with
   | nil =>
    have:=link_last (l:=l2) (by have:=hw.link;rwa[hs2] at this)
    rw[h3,h2] at this
    exact absurd this hz
   | cons e2 m2 =>
    have h4:=link_pair (by have:=hw.link;rwa[hs2] at this)
    have h5:e2=e:=inj_of_map hw.vn _ (by rw[hs2];simp) _ hew (by rw[←h4,h3,h2])
    rw[h5] at hs2
    have hwn:w.Nodup:=nodup_of_map hw.vn
    have h6:l++[d]=l2++[twin u]:=by
     have e1:w=(l++[d])++e :: m:=by rw[hs];simp
     have e2:w=(l2++[twin u])++e :: m2:=by rw[hs2];simp
     have f1:w.idxOf e=(l++[d]).length:=by
      rw[e1] at hwn ⊢
      exact idxOf_split fun r=>(List.nodup_append.1 hwn).2.2 e r e (by simp) rfl
     have f2:w.idxOf e=(l2++[twin u]).length:=by
      rw[e2] at hwn ⊢
      exact idxOf_split fun r=>(List.nodup_append.1 hwn).2.2 e r e (by simp) rfl
     have t1:w.take (l++[d]).length=l++[d]:=by rw[e1];exact List.take_left' rfl
     have t2:w.take (l2++[twin u]).length=l2++[twin u]:=by rw[e2];exact List.take_left' rfl
     rw[←t1,←t2,←f1,←f2]
    have h7:d=twin u:=by
     have:=congrArg List.getLast? h6
     simpa using this
    rw[h7,twin_twin]
  rintro (rfl | rfl)
  ·exact⟨Or.inr (Or.inl hew),rfl⟩
  exact⟨Or.inr (Or.inr (by rw[twin_twin];exact hdw)),by rw[tail_twin,hde]⟩
 have hne:e≠twin d:=fun r=>by
  have h1:e / 2=d / 2:=by rw[r,twin_div]
  have h2:=inj_of_map hw.en _ hew _ hdw h1
  rw[h2] at r
  exact twin_ne d r.symm
 have htd:g.tail (twin d)=g.tail e:=by rw[tail_twin,hde]
 unfold before
 rw[htd]
 exact⟨ahead_pair (ht.nodup _) (fun u=>(hm u).trans Or.comm) (Ne.symm hne),ahead_pair (ht.nodup _) hm hne⟩
theorem link_come (hs:∀ d∈w,d∈q.darts) (hqk:PartOk g q):∀ {w':List Int} {a z:Int},(∀ d∈w',d∈q.darts)→Link g a w' z→∀ u∈w'.map g.tail,Come g q (-1) a u
 | [],_,_,_,_,u,hu=>by simp at hu
 | d :: w',a,z,hd,h,u,hu=>by
  rcases List.mem_cons.1 hu with e | hu
  ·rw[e,h.1];exact .here
  have ih:=link_come hs hqk (w':=w') (fun d h=>hd d (List.mem_cons_of_mem _ h)) h.2 u hu
  have hdd:=hd d (by simp)
  have hn:=near_dart (g:=g) hdd
  rw[h.1] at hn
  have hhead:=(hqk.vr _ (hqk.tail_mem hdd).2).1
  exact (Come.step .here hn (by omega)).trans ih
theorem Faces.put {A B:List Int} {R F F':List (List Int)} (h:Faces g p turn F) (hw:WayIn g p w a z) (hq:Plus g p w q) (ht:TurnsOk g q turn') (hp:TurnPlus g p turn w x y turn')
  (hF:F.Perm ((x :: A++y :: B) :: R)) (hF':F'.Perm ((x :: A++twins w) :: (w++y :: B) :: R)) (hx:g.tail x=a) (hy:g.tail y=z):Faces g q turn' F':=by
 have hpk:=Pt.ok_of_err h.pe
 have hqk:=Pt.ok_of_err hq.qe
 obtain⟨c,l,rfl⟩:=hw.cons
 have hr0:=h.rings.perm hF
 have hall:((x :: A++y :: B) :: R).flatten.Perm p.darts:=hF.symm.flatten.trans h.all
 have hin:∀ u,u∈((x :: A++y :: B) :: R).flatten↔u∈p.darts:=fun u=>hall.mem_iff
 have hpairs:∀ l1 d e m,c :: l=l1++d :: e :: m→nextDart g turn' d=e∧nextDart g turn' (twin e)=twin d:=fun l1 d e m hs=>by
  obtain⟨h1,h2⟩:=inner_turn hw hq hpk ht hs
  exact⟨h1,by unfold nextDart;rw[twin_twin];exact h2⟩
 have hrings:=Rings.chord (q:=nextDart g turn') hr0 (c:=c) (w:=l) (trail_pairs (fun l1 d e m hs=>(hpairs l1 d e m hs).1) (fun l1 d hs=>hp.last d l1 hs)) (twins_pairs (fun l1 d e m hs=>(hpairs l1 d e m hs).2) (by
   unfold nextDart;rw[twin_twin];exact hp.first c l rfl))
  (fun u hu hm=>(hw.dart_new hu).1 ((hin u).1 hm)) (fun u hu hm=>by
   have:=(hw.dart_new (twins_mem.1 hu)).2
   rw[twin_twin] at this
   exact this ((hin u).1 hm)) (twins_nodup hw.en)
  (fun u hu e=>by
   have hu:=(hin u).1 hu
   unfold nextDart at e ⊢
   rw[hp.old _ (twin_mem hu),if_pos e];rfl)
  (fun u hu e e2 t het=>by
   have hu:=(hin u).1 hu
   unfold nextDart at e ⊢
   have hxy:y≠x:=fun r=>hw.ne (by rw[←hx,←hy,r])
   rw[hp.old _ (twin_mem hu),if_neg (by rw[e];exact hxy),if_pos e]
   have h1:(twins (c :: l)).head?=some e2:=by rw[het];rfl
   unfold twins at h1
   rw[List.head?_reverse,List.getLast?_map] at h1
   have h2:(c :: l).getLast?=some ((c :: l).getLastD 0):=by
    rw[List.getLastD_eq_getLast?]
    cases hgl:(c :: l).getLast? with
    | none=>simp at hgl
    | some v=>rfl
   rw[h2] at h1
   exact Option.some.inj h1)
  (fun u hu e1 e2=>by
   have hu:=(hin u).1 hu
   unfold nextDart at e1 e2 ⊢
   rw[hp.old _ (twin_mem hu),if_neg e1,if_neg e2])
 have hsf:=h.simple (x :: A++y :: B) (hF.mem_iff.2 (by simp))
 have hfd:∀ u∈x :: A++y :: B,u∈p.darts:=fun u hu=>(hin u).1 (by rw[List.flatten_cons];exact List.mem_append_left _ hu)
 have hdn:q.darts.Nodup:=darts_nodup hqk.en
 have hE:q.e.Perm (p.e++(c :: l).map (· / 2)):=by
  refine (List.perm_ext_iff_of_nodup hqk.en ?_).2 fun u=>by rw[hq.e,List.mem_append]
  rw[List.nodup_append]
  exact⟨hpk.en,hw.en,fun u hu v hv e=>by
   obtain⟨d,hd,rfl⟩:=List.mem_map.1 hv
   exact hw.enew d hd (e ▸ hu)⟩
 have hV:q.v.Perm (p.v++l.map g.tail):=by
  have hln:(l.map g.tail).Nodup:=by have:=hw.vn;rw[List.map_cons,List.nodup_cons] at this;exact this.2
  refine (List.perm_ext_iff_of_nodup hqk.vn ?_).2 fun u=>?_
  ·rw[List.nodup_append]
   exact⟨hpk.vn,hln,fun u hu v hv e=>by
    obtain⟨d,hd,rfl⟩:=List.mem_map.1 hv
    exact hw.vnew d hd (e ▸ hu)⟩
  rw[hq.v,List.mem_append,List.map_cons,List.mem_cons]
  constructor
  ·rintro (r | r | r)
   ·exact Or.inl r
   ·rw[r,hw.link.1];exact Or.inl hw.av
   exact Or.inr r
  rintro (r | r)
  ·exact Or.inl r
  exact Or.inr (Or.inr r)
 have hhd:=heads_tails hw.link
 have htw:(twins (c :: l)).map g.tail=(l.map g.tail++[z]).reverse:=by
  unfold twins
  rw[List.map_reverse,List.map_map,←hhd]
  congr 2
  funext d
  exact tail_twin g d
 have hlv:∀ u∈l.map g.tail,u ∉ p.v:=fun u hu=>by
  obtain⟨d,hd,rfl⟩:=List.mem_map.1 hu
  exact hw.vnew d hd
 have hln:(l.map g.tail).Nodup:=by have:=hw.vn;rw[List.map_cons,List.nodup_cons] at this;exact this.2
 refine⟨hq.qe,ht,hrings.perm hF'.symm,?_,fun f hf=>?_,fun v hv=>?_,?_,fun u hu v hv=>?_⟩
 ·refine (List.perm_ext_iff_of_nodup (hrings.perm hF'.symm).nodup hdn).2 fun u=>?_
  rw[(hF'.flatten).mem_iff,hq.darts,←hin u]
  simp only[List.flatten_cons,List.mem_append,twins_mem]
  constructor
  ·rintro ((r | r) | (r | r) | r)
   ·exact Or.inl (Or.inl (Or.inl r))
   ·exact Or.inr (Or.inr r)
   ·exact Or.inr (Or.inl r)
   ·exact Or.inl (Or.inl (Or.inr r))
   exact Or.inl (Or.inr r)
  rintro (((r | r) | r) | r | r)
  ·exact Or.inl (Or.inl r)
  ·exact Or.inr (Or.inl (Or.inr r))
  ·exact Or.inr (Or.inr r)
  ·exact Or.inr (Or.inl (Or.inl r))
  exact Or.inl (Or.inr r)
 ·rw[List.map_append,List.nodup_append] at hsf
  obtain⟨s1,s2,s3⟩:=hsf
  rcases List.mem_cons.1 (hF'.mem_iff.1 hf) with rfl | hf
  ·rw[List.map_append,htw,List.nodup_append,nodup_rev]
   refine⟨s1,?_,fun u hu v hv e=>?_⟩
   ·rw[List.nodup_append]
    exact⟨hln,by simp,fun u hu v hv e=>by
     rw[List.mem_singleton.1 hv] at e
     exact hlv u hu (by rw[e];exact hw.zv)⟩
   subst e
   rcases List.mem_append.1 (List.mem_reverse.1 hv) with r | r
   ·obtain⟨d,hd,rfl⟩:=List.mem_map.1 hu
    exact hlv _ r (hpk.tail_mem (hfd d (List.mem_append_left _ hd))).1
   exact s3 u hu z (by simp[hy]) (List.mem_singleton.1 r)
  rcases List.mem_cons.1 hf with rfl | hf
  ·rw[List.map_append,List.nodup_append]
   refine⟨hw.vn,s2,fun u hu v hv e=>?_⟩
   subst e
   rcases List.mem_cons.1 (by simpa using hu:u∈g.tail c :: l.map g.tail) with r | r
   ·refine s3 a ?_ u hv (by rw[r,hw.link.1])
    simp[hx]
   obtain⟨d,hd,rfl⟩:=List.mem_map.1 hv
   exact hlv _ r (hpk.tail_mem (hfd d (List.mem_append_right _ hd))).1
  exact h.simple f (hF.mem_iff.2 (List.mem_cons_of_mem _ hf))
 ·rcases (hq.v v).1 hv with r | r
  ·obtain⟨d,hd,e⟩:=h.full v r
   exact⟨d,hq.darts.2 (Or.inl hd),e⟩
  obtain⟨d,hd,e⟩:=List.mem_map.1 r
  exact⟨d,hq.darts.2 (Or.inr (Or.inl hd)),e⟩
 ·have h1:=h.euler
  have h2:=hE.length_eq
  have h3:=hV.length_eq
  have h4:=hF.length_eq
  have h5:=hF'.length_eq
  simp only[List.length_append,List.length_map,List.length_cons] at h2 h3 h4 h5
  omega
 have hwd:∀ d∈c :: l,d∈q.darts:=fun d hd=>hq.darts.2 (Or.inr (Or.inl hd))
 have hmono:∀ {u v},Come g p (-1) u v→Come g q (-1) u v:=fun {u v} hc=>by
  induction hc with
  | here=>exact .here
  | step _ hn hs ih =>
   obtain⟨e,he,h2⟩:=hn
   exact ih.step ⟨e,(hq.e e).2 (Or.inl he),h2⟩ hs
 have hto:∀ v∈q.v,Come g q (-1) a v:=fun v hv=>by
  rcases (hq.v v).1 hv with r | r
  ·exact hmono (h.joined a hw.av v r)
  exact link_come hwd hqk hwd hw.link v r
 have ha0:=(hpk.vr a hw.av).1
 exact ((hto u hu).symm (by omega)).2.trans (hto v hv)
theorem Faces.flat {F:List (List Int)} (h:Faces g p turn F) (hne:p.v≠[]):flatErr g p turn=0:=by
 have hpk:=Pt.ok_of_err h.pe
 have hW:=walks_ok h.pe h.to_
 have hte:turnErr g p turn=0:=by unfold turnErr;rw[if_neg (by simp[h.pe]),if_pos h.to_]
 refine flatErr_ok hte (flat_of h.pe h.to_ hW ?_)
 have hroots:(roots g p).length=1:=by
  obtain⟨v,hv⟩:=List.exists_mem_of_ne_nil _ hne
  obtain⟨r,hr,-⟩:=root_of (g:=g) (p:=p) (fun v hv=>(hpk.vr v hv).1) hv
  have hone:∀ s∈roots g p,s=r:=fun s hs=>root_one (u:=v) (fun v hv=>(hpk.vr v hv).1) hs hr (h.joined s (mem_roots.1 hs).1 v hv) (h.joined r (mem_roots.1 hr).1 v hv)
  have hn:=roots_nodup hpk
  match hL:roots g p with
  | []=>rw[hL] at hr;simp at hr
  | [_]=>rfl
  | s1 :: s2 :: m =>
   rw[hL] at hone hn
   have e1:=hone s1 (by simp)
   have e2:=hone s2 (by simp)
   rw[e1,e2] at hn
   simp at hn
 have hlone:∀ f∈walksOf g p turn,f.2≠[]:=fun f hf e=>by
  have hm:f.1∈((walksOf g p turn).filter fun f=>f.2.isEmpty).map (·.1):=List.mem_map.2 ⟨f,List.mem_filter.2 ⟨hf,by rw[e];rfl⟩,rfl⟩
  obtain⟨v,hv,-⟩:=List.mem_map.1 (hW.faces.lone.mem_iff.1 hm)
  obtain⟨hv1,hv2⟩:=List.mem_filter.1 hv
  obtain⟨d,hd,hdv⟩:=h.full v hv1
  have:=(h.to_.mem v (hpk.vr v hv1).1 (hpk.vr v hv1).2 d).2 ⟨hd,hdv⟩
  rw[List.isEmpty_iff] at hv2
  rw[hv2] at this
  simp at this
 have hfil:(walksOf g p turn).filter (fun f=>!f.2.isEmpty)=walksOf g p turn:=List.filter_eq_self.2 fun f hf=>by
  cases hf2:f.2 with
  | nil=>exact absurd hf2 (hlone f hf)
  | cons _ _=>rfl
 have hr:=hW.faces.rings
 have ha:=hW.faces.all
 rw[hfil] at hr ha
 have hc:=Rings.count hr h.rings (ha.trans h.all.symm)
 rw[List.length_map] at hc
 have:=h.euler
 rw[hroots,hc]
 omega
def srt (l:List Int):List Int:=l.mergeSort fun x y=>decide (x≤y)
theorem srt_perm (l:List Int):(srt l).Perm l:=List.mergeSort_perm _ _
structure Dfs where
 met:Int→Int
 low:Int→Int
 cnt:Int
 ed:List Int
 bl:List (List Int)
def upd (f:Int→Int) (v x:Int):Int→Int:=fun y=>if y=v then x else f y
theorem upd_at (f:Int→Int) (v x:Int):upd f v x v=x:=if_pos rfl
theorem upd_ne {f:Int→Int} {v x y:Int} (h:y≠v):upd f v x y=f y:=if_neg h
def setB (l:List Int) (bl:List (List Int)):List (List Int):=if bl.any (fun m=>decide (m.getD 0 0=l.getD 0 0)) then bl.map (fun m=>if m.getD 0 0=l.getD 0 0 then l else m) else bl++[l]
theorem setB_new {l:List Int} {bl:List (List Int)} (h:∀ m∈bl,m.getD 0 0≠l.getD 0 0):setB l bl=bl++[l]:=by
 unfold setB
 rw[if_neg]
 intro q
 obtain⟨m,hm,e⟩:=List.any_eq_true.1 q
 exact h m hm (of_decide_eq_true e)
theorem setB_old {l:List Int} {bl:List (List Int)} (hx:∃ m∈bl,m.getD 0 0=l.getD 0 0) (h:∀ m∈bl,m.getD 0 0=l.getD 0 0→m=l):setB l bl=bl:=by
 unfold setB
 obtain⟨m,hm,e⟩:=hx
 rw[if_pos (List.any_eq_true.2 ⟨m,hm,decide_eq_true e⟩)]
 have:bl.map (fun m=>if m.getD 0 0=l.getD 0 0 then l else m)=bl.map id:=List.map_congr_left fun k hk=>by
  by_cases q:k.getD 0 0=l.getD 0 0
  ·rw[if_pos q];exact (h k hk q).symm
  rw[if_neg q];rfl
 rw[this,List.map_id]
def Dfs.enter (s:Dfs) (v:Int):Dfs:={ s with met:=upd s.met v (s.cnt+1),low:=upd s.low v (s.cnt+1),cnt:=s.cnt+1 }
def Dfs.push (s:Dfs) (e:Int):Dfs:={ s with ed:=s.ed++[e] }
def Dfs.lower (s:Dfs) (v x:Int):Dfs:={ s with low:=upd s.low v (min (s.low v) x) }
def Dfs.take (s:Dfs) (e:Int):Dfs:={ s with ed:=s.ed.take (s.ed.idxOf e),bl:=setB (srt (s.ed.drop (s.ed.idxOf e))) s.bl }
def Dfs.lay (s:Dfs) (e:Int):Dfs:={ s with bl:=setB [e] s.bl }
def Dfs.back (t:Dfs) (v w e:Int):Dfs:=if t.met v≤t.low w then (t.lower v (t.low w)).take e else t.lower v (t.low w)
def stepD (go:Int→Int→Dfs→Dfs) (g:Gr) (v via:Int) (s:Dfs) (d:Int):Dfs :=
 if g.head d=v then s.lay (d / 2)
 else if d / 2=via then s
 else if s.met (g.head d)=0 then (go (g.head d) (d / 2) (s.push (d / 2))).back v (g.head d) (d / 2)
 else if s.met (g.head d)<s.met v then (s.push (d / 2)).lower v (s.met (g.head d))
 else s
def visit (g:Gr) (p:Pt):Nat→Int→Int→Dfs→Dfs
 | 0,_,_,s=>s
 | n+1,v,via,s=>(dartsAt g p v).foldl (stepD (visit g p n) g v via) (s.enter v)
def New (s t:Dfs) (x:Int):Prop:=s.met x=0∧t.met x≠0
def Both (g:Gr) (s:Dfs) (e:Int):Prop:=s.met (g.at e).1≠0∧s.met (g.at e).2≠0
structure DOk (g:Gr) (p:Pt) (s:Dfs) (A:List Int):Prop where
 cnt:0≤s.cnt
 num:∀ x,0≤s.met x∧s.met x≤s.cnt
 inj:∀ x y,s.met x≠0→s.met x=s.met y→x=y
 act:∀ a∈A,s.met a≠0
 inV:∀ x,s.met x≠0→x∈p.v
 fin:∀ d∈p.darts,s.met (g.tail d)≠0→g.tail d ∉ A→s.met (g.head d)≠0
 bln:∀ l∈s.bl,l≠[]
 blm:∀ l∈s.bl,∀ e∈l,e∈p.e∧Both g s e
 loopB:∀ l∈s.bl,∀ e∈l,(g.at e).1=(g.at e).2→l=[e]
structure Ent (g:Gr) (p:Pt) (s:Dfs) (A:List Int) (v via:Int):Prop where
 good:DOk g p s A
 vV:v∈p.v
 vn:s.met v=0
 par:(A=[]∧via = -1)∨∃ d∈p.darts,d / 2=via∧g.head d=v∧g.tail d∈A
 edm:∀ e∈s.ed,e=via∨(e∈p.e∧Both g s e)
 edl:∀ e∈s.ed,e∈p.e∧(g.at e).1≠(g.at e).2
def Cov (g:Gr) (p:Pt) (s t:Dfs) (v via:Int) (pre:List Int) (e:Int):Prop:=e≠via∧∃ d∈p.darts,d / 2=e∧New s t (g.tail d)∧(g.tail d≠v∨d∈pre)
def Fst (g:Gr) (p:Pt) (B:List Int):Prop:=(∃ e∈p.e,B=[e]∧(g.at e).1=(g.at e).2) ∨
 ∃ z∈p.v,∃ Y:Int→Prop,¬ Y z∧(∀ d∈p.darts,Y (g.tail d)→Y (g.head d)∨g.head d=z)∧(∀ e,e∈B↔∃ d∈p.darts,d / 2=e∧Y (g.tail d))
structure DSeen (g:Gr) (p:Pt) (s t:Dfs) (A:List Int) (v via:Int) (pre:List Int):Prop where
 good:DOk g p t (A++[v])
 old:∀ x,s.met x≠0→t.met x=s.met x∧t.low x=s.low x
 me:t.met v=s.cnt+1
 later:∀ x,New s t x→s.cnt<t.met x
 tree:∀ x,New s t x→∀ z,¬ New s t z→Come g p z v x
 seen:∀ d∈pre,t.met (g.head d)≠0
 low1:t.low v≤t.met v
 low2:t.low v<t.met v→∃ d∈p.darts,New s t (g.tail d)∧g.head d∈A∧s.met (g.head d)=t.low v∧d / 2≠via
 low3:∀ d∈p.darts,New s t (g.tail d)→(g.tail d=v→d∈pre)→g.head d∈A→d / 2≠via→t.low v≤s.met (g.head d)
 edm:∀ e∈t.ed,e∈p.e∧Both g t e
 edl:∀ e∈t.ed,(g.at e).1≠(g.at e).2
 cov:∃ R N,t.ed=s.ed++R∧t.bl=s.bl++N∧(R++N.flatten).Nodup∧∀ e,e∈R++N.flatten↔Cov g p s t v via pre e
 cut:t.bl=s.bl→∀ z x,New s t z→New s t x→x≠z→(z≠v∧Come g p z x v)∨∃ y∈A,Come g p z x y
 fst:s.bl=[]→∀ B l,t.bl=B :: l→Fst g p B
 top1:A=[]→t.ed=s.ed
 top2:A=[]→t.bl=s.bl→∀ x,New s t x→x=v
 top3:A=[]→t.bl.length≤s.bl.length+1→∀ z x y,New s t z→New s t x→New s t y→x≠z→y≠z→Come g p z x y
def unm (p:Pt) (s:Dfs):Nat:=(p.v.filter fun x=>decide (s.met x=0)).length
variable {g : Gr} {p : Pt} {s t : Dfs} {A pre : List Int} {v via : Int}
theorem filter_le_filter {α:Type} {f h:α→Bool}:∀ {l:List α},(∀ x∈l,f x=true→h x=true)→(l.filter f).length≤(l.filter h).length
 | [],_=>Nat.le_refl _
 | x :: l,q=>by
  have ih:=filter_le_filter (f:=f) (h:=h) (l:=l) fun y hy=>q y (List.mem_cons_of_mem _ hy)
  cases e:f x with
  | true=>rw[List.filter_cons_of_pos e,List.filter_cons_of_pos (q x (by simp) e)];simpa using ih
  | false =>
   rw[List.filter_cons_of_neg (by simp[e])]
   cases e2:h x with
   | true=>rw[List.filter_cons_of_pos e2];simp;omega
   | false=>rw[List.filter_cons_of_neg (by simp[e2])];exact ih
theorem filter_lt_filter {α:Type} {f h:α→Bool} {a:α}:∀ {l:List α},(∀ x∈l,f x=true→h x=true)→a∈l→f a=false→h a=true→(l.filter f).length<(l.filter h).length
 | [],_,ha,_,_=>by simp at ha
 | x :: l,q,ha,h1,h2=>by
  have le:=filter_le_filter (f:=f) (h:=h) (l:=l) fun y hy=>q y (List.mem_cons_of_mem _ hy)
  rcases List.mem_cons.1 ha with e | hal
  ·subst e
   rw[List.filter_cons_of_neg (by simp[h1]),List.filter_cons_of_pos h2]
   simp;omega
  have ih:=filter_lt_filter (f:=f) (h:=h) (l:=l) (fun y hy=>q y (List.mem_cons_of_mem _ hy)) hal h1 h2
  cases e:f x with
  | true=>rw[List.filter_cons_of_pos e,List.filter_cons_of_pos (q x (by simp) e)];simpa using ih
  | false =>
   rw[List.filter_cons_of_neg (by simp[e])]
   cases e2:h x with
   | true=>rw[List.filter_cons_of_pos e2];simp;omega
   | false=>rw[List.filter_cons_of_neg (by simp[e2])];exact ih
theorem getD_in {l:List Int} {n:Nat} (h:n<l.length):l.getD n 0∈l:=by simp[List.getD,h]
theorem div_twin' {d e:Int} (h:d / 2=e / 2):d=e∨e=twin d:=by unfold twin;split <;> omega
theorem dart_ats (g:Gr) (d:Int):(g.tail d=(g.at (d / 2)).1∧g.head d=(g.at (d / 2)).2)∨(g.tail d=(g.at (d / 2)).2∧g.head d=(g.at (d / 2)).1):=by
 unfold Gr.tail Gr.head
 by_cases h:d % 2=0
 ·rw[if_pos h,if_pos h];exact Or.inl ⟨rfl,rfl⟩
 rw[if_neg h,if_neg h];exact Or.inr ⟨rfl,rfl⟩
theorem both_dart {d:Int}:Both g s (d / 2)↔s.met (g.tail d)≠0∧s.met (g.head d)≠0:=by
 unfold Both
 rcases dart_ats g d with ⟨h1,h2⟩ | ⟨h1,h2⟩
 ·rw[h1,h2]
 rw[h1,h2,and_comm]
theorem loop_dart {d:Int}:(g.at (d / 2)).1=(g.at (d / 2)).2↔g.tail d=g.head d:=by
 rcases dart_ats g d with ⟨h1,h2⟩ | ⟨h1,h2⟩
 ·rw[h1,h2]
 rw[h1,h2];exact eq_comm
theorem edge_dart {e:Int} (he:e∈p.e):∃ d∈p.darts,d / 2=e∧g.tail d=(g.at e).1∧g.head d=(g.at e).2 :=
 ⟨2*e,mem_darts.2 (by rwa[show 2*e / 2=e by omega]),by omega,(tail_even g e).1,(tail_even g e).2⟩
theorem DSeen.start (hp:PartOk g p) (h:Ent g p s A v via):DSeen g p s (s.enter v) A v via []:=by
 have hg:=h.good
 have hnew:∀ x,New s (s.enter v) x↔x=v:=fun x=>by
  unfold New Dfs.enter
  constructor
  ·rintro ⟨h1,h2⟩
   refine Classical.byContradiction fun e=>h2 ?_
   show upd s.met v _ x=0
   rw[upd_ne e];exact h1
  rintro rfl
  refine⟨h.vn,?_⟩
  show upd s.met x _ x≠0
  rw[upd_at];have:=hg.cnt;omega
 have hmet:∀ x,x≠v→(s.enter v).met x=s.met x:=fun x hx=>upd_ne hx
 have hme:(s.enter v).met v=s.cnt+1:=upd_at _ _ _
 have hmono:∀ x,s.met x≠0→(s.enter v).met x≠0:=fun x hx=>by
  by_cases e:x=v
  ·rw[e,hme];have:=hg.cnt;omega
  rw[hmet x e];exact hx
 have hbm:∀ e,Both g s e→Both g (s.enter v) e:=fun e hb=>⟨hmono _ hb.1,hmono _ hb.2⟩
 have hlow:(s.enter v).low v=s.cnt+1:=upd_at _ _ _
 refine⟨⟨?_,fun x=>?_,fun x y hx hxy=>?_,fun a ha=>?_,fun x hx=>?_,fun d hd ht hn=>?_,hg.bln,fun l hl e he=>⟨(hg.blm l hl e he).1,hbm e (hg.blm l hl e he).2⟩,hg.loopB⟩,fun x hx=>?_,hme,fun x hx=>?_,fun x hx z hz=>?_,by simp,?_,fun q=>?_,fun d _ hn hpre=>?_,fun e he=>?_,fun e he=>(h.edl e he).2,⟨[],[],by rw[List.append_nil];rfl,by rw[List.append_nil];rfl,by simp,fun e=>?_⟩,fun _ z x hz hx hne=>?_,fun hs B l hB=>?_,fun _=>rfl,fun _ _ x hx=>(hnew x).1 hx,fun _ _ z x y hz hx _ hxz _=>absurd (((hnew x).1 hx).trans ((hnew z).1 hz).symm) hxz⟩
 ·show (0:Int)≤s.cnt+1
  have:=hg.cnt;omega
 ·have:=hg.num x
  have hc:=hg.cnt
  show 0≤(s.enter v).met x∧(s.enter v).met x≤s.cnt+1
  by_cases e:x=v
  ·rw[e,hme];omega
  rw[hmet x e];omega
 ·by_cases e1:x=v
  ·by_cases e2:y=v
   ·rw[e1,e2]
   rw[e1,hme,hmet y e2] at hxy
   have:=(hg.num y).2;omega
  by_cases e2:y=v
  ·rw[e2,hme,hmet x e1] at hxy
   have:=(hg.num x).2;omega
  rw[hmet x e1] at hx hxy
  rw[hmet y e2] at hxy
  exact hg.inj x y hx hxy
 ·rcases List.mem_append.1 ha with q | q
  ·exact hmono a (hg.act a q)
  rw[List.mem_singleton.1 q,hme];have:=hg.cnt;omega
 ·by_cases e:x=v
  ·rw[e];exact h.vV
  rw[hmet x e] at hx;exact hg.inV x hx
 ·have hnv:g.tail d≠v:=fun e=>hn (by rw[e];simp)
  rw[hmet _ hnv] at ht
  exact hmono _ (hg.fin d hd ht fun q=>hn (List.mem_append_left _ q))
 ·have e:x≠v:=fun e=>hx (by rw[e];exact h.vn)
  exact⟨hmet x e,upd_ne e⟩
 ·rw[(hnew x).1 hx,hme];omega
 ·rw[(hnew x).1 hx];exact .here
 ·rw[hlow,hme];exact Int.le_refl _
 ·rw[hlow,hme] at q;omega
 ·intro _ _
  have:=hpre ((hnew _).1 hn)
  simp at this
 ·rcases h.edm e he with q | q
  ·rcases h.par with ⟨-,hm⟩ | ⟨d,hd,hd2,hh,ha⟩
   ·have:=hp.er e (h.edl e he).1;omega
   subst q
   refine⟨(h.edl e he).1,?_⟩
   rw[←hd2,both_dart,hh,hme]
   exact⟨hmono _ (hg.act _ ha),by have:=hg.cnt;omega⟩
  exact⟨q.1,hbm e q.2⟩
 ·simp only[List.flatten_nil,List.append_nil,List.not_mem_nil,false_iff]
  rintro ⟨-,d,-,-,hn,q | q⟩
  ·exact q ((hnew _).1 hn)
  cases q
 ·exact absurd ((hnew x).1 hx |>.trans ((hnew z).1 hz).symm) hne
 rw[show (s.enter v).bl=s.bl from rfl,hs] at hB
 cases hB
variable {g : Gr} {p : Pt} {s t : Dfs} {A pre : List Int} {v via : Int}
theorem Ent.vA (h:Ent g p s A v via):v ∉ A:=fun q=>h.good.act v q h.vn
theorem Ent.via_head (h:Ent g p s A v via) (hp:PartOk g p) {d:Int} (hd:d∈p.darts) (hv:g.tail d=v) (he:d / 2=via):g.head d∈A:=by
 rcases h.par with ⟨-,q⟩ | ⟨c,hc,hc2,hh,ha⟩
 ·have:=hp.er _ (mem_darts.1 hd);omega
 rcases div_twin' (hc2.trans he.symm) with r | r
 ·exact absurd (by rw[←hv,←r];exact ha) h.vA
 have:g.head d=g.tail c:=by rw[r,←tail_twin,twin_twin]
 rw[this];exact ha
theorem DSeen.mono (h:DSeen g p s t A v via pre) {x:Int} (hx:s.met x≠0):t.met x≠0:=by rw[(h.old x hx).1];exact hx
theorem DSeen.newv (hE:Ent g p s A v via) (h:DSeen g p s t A v via pre):New s t v:=⟨hE.vn,by rw[h.me];have:=hE.good.cnt;omega⟩
theorem DSeen.inA (hE:Ent g p s A v via) (_h:DSeen g p s t A v via pre) {d:Int} (hd:d∈p.darts) (hn:New s t (g.tail d)) (hm:s.met (g.head d)≠0):g.head d∈A:=by
 refine Classical.byContradiction fun q=>?_
 have:=hE.good.fin (twin d) (twin_mem hd) (by rw[tail_twin];exact hm) (by rw[tail_twin];exact q)
 rw[←tail_twin,twin_twin] at this
 exact this hn.1
theorem DSeen.same (h:DSeen g p s t A v via pre) {d:Int} (hs:t.met (g.head d)≠0) (hlow:g.head d∈A→d / 2≠via→t.low v≤s.met (g.head d)) (hcov:d / 2≠via→Cov g p s t v via pre (d / 2)):DSeen g p s t A v via (pre++[d]):=by
 obtain⟨R,N,e1,e2,e3,e4⟩:=h.cov
 refine⟨h.good,h.old,h.me,h.later,h.tree,fun c hc=>?_,h.low1,h.low2,fun c hc hn hpre hA hv=>?_,h.edm,h.edl,⟨R,N,e1,e2,e3,fun e=>?_⟩,h.cut,h.fst,h.top1,h.top2,h.top3⟩
 ·rcases List.mem_append.1 hc with q | q
  ·exact h.seen c q
  rw[List.mem_singleton.1 q];exact hs
 ·by_cases q:g.tail c=v∧c ∉ pre
  ·have h1:=hpre q.1
   rcases List.mem_append.1 h1 with r | r
   ·exact absurd r q.2
   rw[List.mem_singleton.1 r] at hA hv ⊢;exact hlow hA hv
  exact h.low3 c hc hn (fun r=>Classical.byContradiction fun u=>q ⟨r,u⟩) hA hv
 rw[e4]
 constructor
 ·rintro ⟨h1,c,hc,h2,h3,h4⟩
  exact⟨h1,c,hc,h2,h3,h4.imp id fun q=>List.mem_append_left _ q⟩
 rintro ⟨h1,c,hc,h2,h3,h4⟩
 rcases h4 with q | q
 ·exact⟨h1,c,hc,h2,h3,Or.inl q⟩
 rcases List.mem_append.1 q with r | r
 ·exact⟨h1,c,hc,h2,h3,Or.inr r⟩
 rw[List.mem_singleton.1 r] at h2
 rw[←h2]
 exact hcov (by rw[h2];exact h1)
theorem DSeen.loop (hp:PartOk g p) (hE:Ent g p s A v via) (h:DSeen g p s t A v via pre) {d:Int} (hd:d∈p.darts) (hv:g.tail d=v) (hh:g.head d=v):DSeen g p s (t.lay (d / 2)) A v via (pre++[d]):=by
 have hloop:(g.at (d / 2)).1=(g.at (d / 2)).2:=loop_dart.2 (hv.trans hh.symm)
 have hvm:t.met v≠0:=(h.newv hE).2
 have hvia:d / 2≠via:=fun q=>hE.vA (by have:=hE.via_head hp hd hv q;rwa[hh] at this)
 by_cases hc:Cov g p s t v via pre (d / 2)
 ·have hbl:(t.lay (d / 2))=t:=by
   obtain⟨R,N,e1,e2,e3,e4⟩:=h.cov
   have hm:=(e4 _).2 hc
   have hN:d / 2∈N.flatten:=by
    rcases List.mem_append.1 hm with q | q
    ·exact absurd hloop (h.edl _ (by rw[e1];exact List.mem_append_right _ q))
    exact q
   obtain⟨l,hl,hel⟩:=List.mem_flatten.1 hN
   have hlt:l∈t.bl:=by rw[e2];exact List.mem_append_right _ hl
   have hle:=h.good.loopB l hlt _ hel hloop
   unfold Dfs.lay
   rw[setB_old ⟨l,hlt,by rw[hle]⟩ fun m hm q=>?_]
   have hmm:d / 2∈m:=by
    have h0:m.getD 0 0∈m:=getD_in (List.length_pos_iff.2 (h.good.bln m hm))
    rw[q] at h0;exact h0
   exact h.good.loopB m hm _ hmm hloop
  rw[hbl]
  exact h.same (by rw[hh];exact hvm) (fun q=>absurd (by rwa[hh] at q) hE.vA) fun _=>hc
 have hnb:∀ m∈t.bl,d / 2 ∉ m:=fun m hm hem=>by
  obtain⟨R,N,e1,e2,e3,e4⟩:=h.cov
  rw[e2] at hm
  rcases List.mem_append.1 hm with q | q
  ·have:=(both_dart.1 (hE.good.blm m q _ hem).2).1
   rw[hv] at this
   exact this hE.vn
  exact hc ((e4 _).1 (List.mem_append_right _ (List.mem_flatten.2 ⟨m,q,hem⟩)))
 have hbl:(t.lay (d / 2)).bl=t.bl++[[d / 2]]:=setB_new fun m hm q=>by
  have h0:m.getD 0 0∈m:=getD_in (List.length_pos_iff.2 (h.good.bln m hm))
  rw[q] at h0
  exact hnb m hm h0
 obtain⟨t',ht'⟩:∃ t',t.lay (d / 2)=t':=⟨_,rfl⟩
 have m1:t'.met=t.met:=by rw[←ht'];rfl
 have m2:t'.low=t.low:=by rw[←ht'];rfl
 have m3:t'.ed=t.ed:=by rw[←ht'];rfl
 have m4:t'.cnt=t.cnt:=by rw[←ht'];rfl
 rw[ht'] at hbl ⊢
 have hN:∀ x,New s t' x↔New s t x:=fun x=>by unfold New;rw[m1]
 have hB:∀ e,Both g t' e↔Both g t e:=fun e=>by unfold Both;rw[m1]
 have hG:=h.good
 have hbe:Both g t (d / 2):=both_dart.2 ⟨by rw[hv];exact hvm,by rw[hh];exact hvm⟩
 obtain⟨R,N,e1,e2,e3,e4⟩:=h.cov
 refine⟨⟨by rw[m4];exact hG.cnt,by rw[m1,m4];exact hG.num,by rw[m1];exact hG.inj,by rw[m1];exact hG.act,by rw[m1];exact hG.inV,by rw[m1];exact hG.fin,fun l hl=>?_,fun l hl e he=>?_,fun l hl e he hle=>?_⟩,by rw[m1,m2];exact h.old,by rw[m1];exact h.me,fun x hx=>by rw[m1];exact h.later x ((hN x).1 hx),fun x hx z hz=>h.tree x ((hN x).1 hx) z fun q=>hz ((hN z).2 q),fun c hc=>?_,by rw[m1,m2];exact h.low1,?_,fun c hc hn hpre hA hv=>?_,fun e he=>by rw[m3] at he;exact⟨(h.edm e he).1,(hB e).2 (h.edm e he).2⟩,by rw[m3];exact h.edl,⟨R,N++[[d / 2]],by rw[m3];exact e1,by rw[hbl,e2,List.append_assoc],?_,fun e=>?_⟩,fun q=>?_,fun hs B l hBl=>?_,fun q=>by rw[m3];exact h.top1 q,fun _ q=>?_,fun q1 q=>?_⟩
 ·rw[hbl] at hl
  rcases List.mem_append.1 hl with q | q
  ·exact hG.bln l q
  rw[List.mem_singleton.1 q];simp
 ·rw[hbl] at hl
  rw[hB]
  rcases List.mem_append.1 hl with q | q
  ·exact hG.blm l q e he
  rw[List.mem_singleton.1 q,List.mem_singleton] at he
  rw[he];exact⟨mem_darts.1 hd,hbe⟩
 ·rw[hbl] at hl
  rcases List.mem_append.1 hl with q | q
  ·exact hG.loopB l q e he hle
  rw[List.mem_singleton.1 q] at he ⊢
  rw[List.mem_singleton.1 he]
 ·rw[m1]
  rcases List.mem_append.1 hc with q | q
  ·exact h.seen c q
  rw[List.mem_singleton.1 q,hh];exact hvm
 ·intro q
  rw[m1,m2] at q
  obtain⟨c,hc,k1,k2,k3,k4⟩:=h.low2 q
  exact⟨c,hc,(hN _).2 k1,k2,by rw[m2];exact k3,k4⟩
 ·rw[m2]
  by_cases q:c=d
  ·rw[q,hh] at hA;exact absurd hA hE.vA
  exact h.low3 c hc ((hN _).1 hn) (fun r=>(List.mem_append.1 (hpre r)).resolve_right fun u=>q (List.mem_singleton.1 u)) hA hv
 ·rw[List.flatten_append,←List.append_assoc,List.nodup_append]
  exact⟨e3,by simp,fun a ha b hb e=>by
   have hb:b=d / 2:=by simpa using hb
   exact hc ((e4 _).1 (by rw[←hb,←e];exact ha))⟩
 ·rw[List.flatten_append,←List.append_assoc,List.mem_append,e4]
  simp only[List.flatten_cons,List.flatten_nil,List.append_nil,List.mem_singleton]
  constructor
  ·rintro (⟨h1,c,hc,h2,h3,h4⟩ | rfl)
   ·exact⟨h1,c,hc,h2,(hN _).2 h3,h4.imp id fun q=>List.mem_append_left _ q⟩
   exact⟨hvia,d,hd,rfl,(hN _).2 (by rw[hv];exact h.newv hE),Or.inr (by simp)⟩
  rintro ⟨h1,c,hc,h2,h3,h4⟩
  rcases h4 with q | q
  ·exact Or.inl ⟨h1,c,hc,h2,(hN _).1 h3,Or.inl q⟩
  rcases List.mem_append.1 q with r | r
  ·exact Or.inl ⟨h1,c,hc,h2,(hN _).1 h3,Or.inr r⟩
  rw[List.mem_singleton.1 r] at h2;exact Or.inr h2.symm
 ·rw[hbl,e2,List.append_assoc] at q
  have:=congrArg List.length q
  simp at this
 ·rw[hbl] at hBl
  cases hq:t.bl with
  | nil =>
   rw[hq] at hBl
   cases hBl
   exact Or.inl ⟨d / 2,mem_darts.1 hd,rfl,hloop⟩
  | cons B' l' =>
   rw[hq,List.cons_append] at hBl
   injection hBl with k1 k2
   rw[←k1]
   exact h.fst hs B' l' hq
 ·exfalso
  rw[hbl,e2,List.append_assoc] at q
  have:=congrArg List.length q
  simp at this
 intro z x y hz hx _ hxz _
 have hb0:t.bl=s.bl:=by
  rw[hbl,e2] at q
  simp only[List.length_append,List.length_singleton] at q
  rw[e2,List.length_eq_zero_iff.1 (show N.length=0 by omega),List.append_nil]
 exact absurd ((h.top2 q1 hb0 x ((hN x).1 hx)).trans (h.top2 q1 hb0 z ((hN z).1 hz)).symm) hxz
theorem DSeen.up (_hp:PartOk g p) (hE:Ent g p s A v via) (h:DSeen g p s t A v via pre) {d:Int} (hd:d∈p.darts) (hv:g.tail d=v) (hdp:d ∉ pre) (hh:g.head d≠v) (hvia:d / 2≠via) (hm:t.met (g.head d)≠0) (hlt:t.met (g.head d)<t.met v) :
  DSeen g p s ((t.push (d / 2)).lower v (t.met (g.head d))) A v via (pre++[d]):=by
 have hnv:=h.newv hE
 have hsm:s.met (g.head d)≠0:=fun q=>by
  have:=h.later _ ⟨q,hm⟩
  rw[h.me] at hlt;omega
 have hA:g.head d∈A:=h.inA hE hd (by rw[hv];exact hnv) hsm
 have hold:=(h.old _ hsm).1
 obtain⟨t',ht'⟩:∃ t',(t.push (d / 2)).lower v (t.met (g.head d))=t':=⟨_,rfl⟩
 have m1:t'.met=t.met:=by rw[←ht'];rfl
 have m2:∀ x,x≠v→t'.low x=t.low x:=fun x hx=>by rw[←ht'];exact upd_ne hx
 have m3:t'.ed=t.ed++[d / 2]:=by rw[←ht'];rfl
 have m4:t'.cnt=t.cnt:=by rw[←ht'];rfl
 have m5:t'.bl=t.bl:=by rw[←ht'];rfl
 have m6:t'.low v=min (t.low v) (t.met (g.head d)):=by rw[←ht'];exact upd_at _ _ _
 rw[ht']
 have hN:∀ x,New s t' x↔New s t x:=fun x=>by unfold New;rw[m1]
 have hB:∀ e,Both g t' e↔Both g t e:=fun e=>by unfold Both;rw[m1]
 have hG:=h.good
 have hbe:Both g t (d / 2):=both_dart.2 ⟨by rw[hv];exact hnv.2,hm⟩
 have hnc:¬ Cov g p s t v via pre (d / 2):=by
  rintro ⟨-,c,hc,h2,h3,h4⟩
  rcases div_twin' h2.symm with q | q
  ·rcases h4 with r | r
   ·exact r (by rw[←q];exact hv)
   exact hdp (by rw[q];exact r)
  have:g.tail c=g.head d:=by rw[q,tail_twin]
  rw[this] at h3
  exact hsm h3.1
 obtain⟨R,N,e1,e2,e3,e4⟩:=h.cov
 refine⟨⟨by rw[m4];exact hG.cnt,by rw[m1,m4];exact hG.num,by rw[m1];exact hG.inj,by rw[m1];exact hG.act,by rw[m1];exact hG.inV,by rw[m1];exact hG.fin,by rw[m5];exact hG.bln,fun l hl e he=>?_,by rw[m5];exact hG.loopB⟩,fun x hx=>?_,by rw[m1];exact h.me,fun x hx=>by rw[m1];exact h.later x ((hN x).1 hx),fun x hx z hz=>h.tree x ((hN x).1 hx) z fun q=>hz ((hN z).2 q),fun c hc=>?_,?_,fun q=>?_,fun c hc hn hpre hcA hcv=>?_,fun e he=>?_,fun e he=>?_,⟨R++[d / 2],N,by rw[m3,e1,List.append_assoc],by rw[m5];exact e2,?_,fun e=>?_⟩,fun q z x hz hx hne=>?_,by rw[m5];exact h.fst,fun q=>absurd hA (by rw[q];simp),fun q=>absurd hA (by rw[q];simp),fun q=>absurd hA (by rw[q];simp)⟩
 ·rw[m5] at hl
  rw[hB];exact hG.blm l hl e he
 ·have hxv:x≠v:=fun e=>hx (by rw[e];exact hE.vn)
  rw[m1,m2 x hxv];exact h.old x hx
 ·rw[m1]
  rcases List.mem_append.1 hc with q | q
  ·exact h.seen c q
  rw[List.mem_singleton.1 q];exact hm
 ·rw[m6,m1]
  have:=h.low1
  omega
 ·rw[m6,m1] at q
  by_cases r:t.low v≤t.met (g.head d)
  ·obtain⟨c,hc,k1,k2,k3,k4⟩:=h.low2 (by omega)
   exact⟨c,hc,(hN _).2 k1,k2,by rw[m6,k3];omega,k4⟩
  exact⟨d,hd,(hN _).2 (by rw[hv];exact hnv),hA,by rw[m6,←hold];omega,hvia⟩
 ·rw[m6]
  by_cases q:c=d
  ·rw[q,←hold];omega
  have:=h.low3 c hc ((hN _).1 hn) (fun r=>(List.mem_append.1 (hpre r)).resolve_right fun u=>q (List.mem_singleton.1 u)) hcA hcv
  omega
 ·rw[m3] at he
  rw[hB]
  rcases List.mem_append.1 he with q | q
  ·exact h.edm e q
  rw[List.mem_singleton.1 q];exact⟨mem_darts.1 hd,hbe⟩
 ·rw[m3] at he
  rcases List.mem_append.1 he with q | q
  ·exact h.edl e q
  rw[List.mem_singleton.1 q]
  exact fun r=>hh (by have:=loop_dart.1 r;rw[←this,hv])
 ·have hp2:(R++[d / 2]++N.flatten).Perm ((d / 2) :: (R++N.flatten)):=by
   rw[List.append_assoc]
   exact List.perm_middle
  rw[hp2.nodup_iff]
  exact List.nodup_cons.2 ⟨fun q=>hnc ((e4 _).1 q),e3⟩
 ·have hm2:e∈R++[d / 2]++N.flatten↔e=d / 2∨e∈R++N.flatten:=by
   simp only[List.mem_append,List.mem_singleton]
   constructor
   ·rintro ((q | q) | q)
    ·exact Or.inr (Or.inl q)
    ·exact Or.inl q
    exact Or.inr (Or.inr q)
   rintro (q | q | q)
   ·exact Or.inl (Or.inr q)
   ·exact Or.inl (Or.inl q)
   exact Or.inr q
  rw[hm2,e4]
  constructor
  ·rintro (rfl | ⟨h1,c,hc,h2,h3,h4⟩)
   ·exact⟨hvia,d,hd,rfl,(hN _).2 (by rw[hv];exact hnv),Or.inr (by simp)⟩
   exact⟨h1,c,hc,h2,(hN _).2 h3,h4.imp id fun q=>List.mem_append_left _ q⟩
  rintro ⟨h1,c,hc,h2,h3,h4⟩
  rcases h4 with q | q
  ·exact Or.inr ⟨h1,c,hc,h2,(hN _).1 h3,Or.inl q⟩
  rcases List.mem_append.1 q with r | r
  ·exact Or.inr ⟨h1,c,hc,h2,(hN _).1 h3,Or.inr r⟩
  rw[List.mem_singleton.1 r] at h2;exact Or.inl h2.symm
 rw[m5] at q
 exact h.cut q z x ((hN z).1 hz) ((hN x).1 hx) hne
end Go.Proofs.Ytbkjljffnkdcjaa.Plain
