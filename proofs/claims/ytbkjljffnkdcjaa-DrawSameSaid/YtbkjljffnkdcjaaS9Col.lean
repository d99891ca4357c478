/- Colours of faces on a sphere, around a vertex; chains of edges along ways. No program here. -/
import Derived.Test.YtbkjljffnkdcjaaS9Awk12
namespace Go.Proofs.Ytbkjljffnkdcjaa.Plain
structure Ball (g:Gr) (p:Pt) (turn:List (List Int)):Prop where
 pe:p.err g=0
 to_:TurnsOk g p turn
 full:∀ v∈p.v,∃ d∈p.darts,g.tail d=v
 joined:∀ u∈p.v,∀ v∈p.v,Come g p (-1) u v
 sphere:∃ F,Rings (nextDart g turn) F∧F.flatten.Perm p.darts∧p.v.length+F.length=2+p.e.length
theorem Faces.ball {g:Gr} {p:Pt} {turn F:List (List Int)} (h:Faces g p turn F):Ball g p turn:=⟨h.pe,h.to_,h.full,h.joined,F,h.rings,h.all,h.euler⟩
def deg (turn:List (List Int)) (c:Int→Bool) (v:Int):Bool:=par (fun d=>c (d / 2)) (turnAt turn v)
theorem deg_xor (turn:List (List Int)) (c k:Int→Bool) (v:Int):deg turn (fun e=>c e ^^ k e) v=(deg turn c v ^^ deg turn k v):=par_xor _ _ _
structure Col (g:Gr) (p:Pt) (turn:List (List Int)) (c χ:Int→Bool):Prop where
 next:∀ d∈p.darts,χ (nextDart g turn d)=χ d
 twin:∀ d∈p.darts,χ (twin d)=(χ d ^^ c (d / 2))
variable {g : Gr} {p : Pt} {turn : List (List Int)}
theorem busy_all (hp:PartOk g p) (ht:TurnsOk g p turn) (hf:∀ v∈p.v,∃ d∈p.darts,g.tail d=v):busy turn p.v=p.v:=by
 refine List.filter_eq_self.2 fun v hv=>?_
 obtain⟨d,hd,e⟩:=hf v hv
 have:=(ht.mem v (hp.vr v hv).1 (hp.vr v hv).2 d).2 ⟨hd,e⟩
 cases q:turnAt turn v with
 | nil=>rw[q] at this;simp at this
 | cons _ _=>rfl
theorem at_ring (hp:PartOk g p) (ht:TurnsOk g p turn) {d:Int} (hd:d∈p.darts):∃ l,Trail (before g turn) d l d∧(d :: l).Perm (turnAt turn (g.tail d)):=by
 obtain⟨v1,v2⟩:=hp.vr _ (hp.tail_mem hd).1
 have hm:=(ht.mem _ v1 v2 d).2 ⟨hd,rfl⟩
 have hr:=ahead_ring (ht.nodup (g.tail d)) (fun e=>by rw[e] at hm;simp at hm)
 have hr2:Ring (before g turn) (turnAt turn (g.tail d)).reverse:=hr.congr fun x hx=>by
  have:=((ht.mem _ v1 v2 x).1 (List.mem_reverse.1 hx)).2
  unfold before
  rw[this]
 obtain⟨l,h1,h2⟩:=hr2.from (List.mem_reverse.2 hm)
 exact⟨l,h1,h2.trans (List.reverse_perm _)⟩
theorem at_mem (hp:PartOk g p) (ht:TurnsOk g p turn) {v:Int} (hv:v∈p.v) {x:Int}:x∈turnAt turn v↔x∈p.darts∧g.tail x=v:=ht.mem _ (hp.vr v hv).1 (hp.vr v hv).2 x
theorem all_one (hp:PartOk g p) (ht:TurnsOk g p turn) (hj:∀ u∈p.v,∀ v∈p.v,Come g p (-1) u v) {Q:Int→Int→Prop} (hQ:Eqv Q) (h1:∀ d∈p.darts,Q d (before g turn d)) (h2:∀ d∈p.darts,Q d (Plain.twin d)):∀ x∈p.darts,∀ y∈p.darts,Q x y:=by
 have hat:∀ x∈p.darts,∀ y∈p.darts,g.tail x=g.tail y→Q x y:=fun x hx y hy e=>by
  obtain⟨l,hl,hlp⟩:=at_ring hp ht hx
  have hvx:=(hp.tail_mem hx).1
  exact trail_rel hQ hl (fun w hw=>h1 w ((at_mem hp ht hvx).1 (hlp.mem_iff.1 hw)).1) y (hlp.mem_iff.2 ((at_mem hp ht hvx).2 ⟨hy,e.symm⟩))
 intro x hx y hy
 have key:∀ u,Come g p (-1) (g.tail x) u→∀ y∈p.darts,g.tail y=u→Q x y:=by
  intro u hu
  induction hu with
  | here=>exact fun y hy e=>hat x hx y hy e.symm
  | step _ hn _ ih =>
   rename_i u w _
   obtain⟨e,he,hn⟩:=hn
   intro y hy hyw
   have m0:2*e∈p.darts:=mem_darts.2 (by rwa[show 2*e / 2=e by omega])
   obtain⟨t1,t2⟩:=tail_even g e
   have hte:g.tail (Plain.twin (2*e))=(g.at e).2:=by rw[tail_twin,t2]
   rcases hn with q | q
   ·have a1:=ih (2*e) m0 (by rw[t1,q])
    exact hQ.trans (hQ.trans a1 (h2 _ m0)) (hat _ (twin_mem m0) y hy (by rw[hte,q,hyw]))
   have a1:=ih _ (twin_mem m0) (by rw[hte,q])
   exact hQ.trans (hQ.trans a1 (hQ.symm (h2 _ m0))) (hat _ m0 y hy (by rw[t1,q,hyw]))
 exact key _ (hj _ (hp.tail_mem hx).1 _ (hp.tail_mem hy).1) y hy rfl
theorem rings_at (hp:PartOk g p) (ht:TurnsOk g p turn) (hf:∀ v∈p.v,∃ d∈p.darts,g.tail d=v):Rings (before g turn) ((p.v).map fun v=>(turnAt turn v).reverse)∧((p.v).map fun v=>(turnAt turn v).reverse).flatten.Perm p.darts:=by
 obtain⟨hb,hbl⟩:=before_rings ht hp.en hp.vn hp.vr
 rw[busy_all hp ht hf] at hb hbl
 have hall:leaving g p p.v=p.darts:=List.filter_eq_self.2 fun d hd=>by simpa using (hp.tail_mem hd).1
 rw[hall] at hbl
 exact⟨hb,hbl⟩
theorem Ball.col (h:Ball g p turn) {c:Int→Bool} (hev:∀ v∈p.v,deg turn c v=false):∃ χ,Col g p turn c χ:=by
 have hp:=Pt.ok_of_err h.pe
 obtain⟨F,hF,hFK,heu⟩:=h.sphere
 obtain⟨hb,hbl⟩:=rings_at hp h.to_ h.full
 obtain⟨χ,h1,h2⟩:=colours (c:=c) hb hbl hp.en (fun d=>mem_darts) hF hFK (by rw[List.length_map];exact heu)
  (fun Q hQ h1 h2=>all_one hp h.to_ h.joined hQ h1 h2)
  (fun l hl=>by
   obtain⟨v,hv,rfl⟩:=List.mem_map.1 hl
   rw[par_perm (List.reverse_perm _)]
   exact hev v hv)
 exact⟨χ,h1,h2⟩
structure Globe (g:Gr) (p:Pt) (turn:List (List Int)):Prop where
 pe:p.err g=0
 to_:TurnsOk g p turn
 full:∀ v∈p.v,∃ d∈p.darts,g.tail d=v
 joined:∀ u∈p.v,∀ v∈p.v,Come g p (-1) u v
 colr:∀ c:Int→Bool,(∀ v∈p.v,deg turn c v=false)→∃ χ,Col g p turn c χ
theorem Globe.col (h:Globe g p turn) {c:Int→Bool} (hev:∀ v∈p.v,deg turn c v=false):∃ χ,Col g p turn c χ:=h.colr c hev
theorem Ball.globe (h:Ball g p turn):Globe g p turn:=⟨h.pe,h.to_,h.full,h.joined,fun _ hev=>h.col hev⟩
theorem Faces.globe {F:List (List Int)} (h:Faces g p turn F):Globe g p turn:=h.ball.globe
section
variable {c k χ ψ : Int → Bool}
theorem Col.before (h:Col g p turn c χ) {d:Int} (hd:d∈p.darts):χ (before g turn d)=(χ d ^^ c (d / 2)):=by
 have:=h.next _ (twin_mem hd)
 unfold nextDart at this
 rw[twin_twin] at this
 rw[this,h.twin d hd]
theorem Col.xor (h:Col g p turn c χ) (h2:Col g p turn k ψ):Col g p turn (fun e=>c e ^^ k e) (fun d=>χ d ^^ ψ d) :=
 ⟨fun d hd=>by rw[h.next d hd,h2.next d hd],fun d hd=>by rw[h.twin d hd,h2.twin d hd];cases χ d <;> cases ψ d <;> cases c (d / 2) <;> cases k (d / 2) <;> rfl⟩
theorem Col.congr (h:Col g p turn c χ) (e:∀ x∈p.e,c x=k x):Col g p turn k χ:=⟨h.next,fun d hd=>by rw[h.twin d hd,e _ (mem_darts.1 hd)]⟩
theorem Col.trail (h:Col g p turn c χ) {z y:Int} {B:List Int}:∀ {A:List Int} {x:Int},Trail (Plain.before g turn) x (A++y :: B) z→(∀ d∈x :: A,d∈p.darts)→χ y=(χ x ^^ par (fun d=>c (d / 2)) (x :: A))
 | [],x,ht,hd=>by
  have e:Plain.before g turn x=y:=ht.1
  rw[←e,h.before (hd x (by simp))];simp[par]
 | a :: A,x,ht,hd=>by
  have e:Plain.before g turn x=a:=ht.1
  have ih:=Col.trail h (A:=A) (x:=a) ht.2 (fun d hm=>hd d (List.mem_cons_of_mem _ hm))
  have hb:=h.before (hd x (by simp))
  rw[e] at hb
  rw[ih,hb]
  simp only[par]
  rw[Bool.xor_assoc]
theorem at_two (hp:PartOk g p) (ht:TurnsOk g p turn) {d e:Int} (hd:d∈p.darts) (he:e∈p.darts) (hv:g.tail d=g.tail e) (hne:d≠e) :
  ∃ A B,Trail (Plain.before g turn) d (A++e :: B) d∧(d :: A++e :: B).Nodup∧∀ u,u∈d :: A++e :: B↔u∈p.darts∧g.tail u=g.tail d:=by
 obtain⟨l,hl,hlp⟩:=at_ring hp ht hd
 have hvd:=(hp.tail_mem hd).1
 have hm:e∈d :: l:=hlp.mem_iff.2 ((at_mem hp ht hvd).2 ⟨he,hv.symm⟩)
 obtain⟨A,B,rfl⟩:=List.append_of_mem ((List.mem_cons.1 hm).resolve_left fun q=>hne q.symm)
 exact⟨A,B,hl,hlp.nodup_iff.2 (ht.nodup _),fun u=>by rw[←at_mem hp ht hvd];exact hlp.mem_iff⟩
theorem Col.same (h:Col g p turn c χ) (hp:PartOk g p) (ht:TurnsOk g p turn) {d e:Int} (hd:d∈p.darts) (he:e∈p.darts) (hv:g.tail d=g.tail e)
  (hc:∀ u∈p.darts,g.tail u=g.tail d→c (u / 2)=false):χ d=χ e:=by
 by_cases hne:d=e
 ·rw[hne]
 obtain⟨A,B,h1,h2,h3⟩:=at_two hp ht hd he hv hne
 have hsub:∀ u∈d :: A,u∈p.darts∧g.tail u=g.tail d:=fun u hu=>(h3 u).1 (by rw[List.mem_append];exact Or.inl hu)
 rw[h.trail h1 (fun u hu=>(hsub u hu).1),par_none (fun u hu=>hc u (hsub u hu).1 (hsub u hu).2),Bool.xor_false]
theorem Col.two (h:Col g p turn c χ) (hp:PartOk g p) (ht:TurnsOk g p turn) {d e:Int} (hd:d∈p.darts) (he:e∈p.darts) (hv:g.tail d=g.tail e) (hne:d≠e)
  (hc:∀ u∈p.darts,g.tail u=g.tail d→c (u / 2)=(decide (u=d) ^^ decide (u=e))):χ e=!χ d:=by
 obtain⟨A,B,h1,h2,h3⟩:=at_two hp ht hd he hv hne
 have hsub:∀ u∈d :: A,u∈p.darts∧g.tail u=g.tail d:=fun u hu=>(h3 u).1 (by rw[List.mem_append];exact Or.inl hu)
 have hn:=List.nodup_append.1 h2
 have heA:e ∉ d :: A:=fun q=>hn.2.2 e q e (by simp) rfl
 rw[h.trail h1 (fun u hu=>(hsub u hu).1),par_one (x:=d) hn.1 (by simp) (by rw[hc d hd rfl];simp[hne]) (fun u hu hud=>by
  rw[hc u (hsub u hu).1 (hsub u hu).2]
  have:u≠e:=fun q=>heA (q ▸ hu)
  simp[hud,this])]
 cases χ d <;> rfl
theorem Col.alike (h:Col g p turn c χ) (h2:Col g p turn k ψ) (hp:PartOk g p) (ht:TurnsOk g p turn) {d e:Int} (hd:d∈p.darts) (he:e∈p.darts) (hv:g.tail d=g.tail e)
  (hc:∀ u∈p.darts,g.tail u=g.tail d→c (u / 2)=k (u / 2)):(χ d ^^ ψ d)=(χ e ^^ ψ e) :=
 (h.xor h2).same hp ht hd he hv fun u hu hv=>by rw[hc u hu hv];simp
theorem Col.three (h:Col g p turn c χ) (h2:Col g p turn k ψ) (hp:PartOk g p) (ht:TurnsOk g p turn) {o t q:Int} (ho:o∈p.darts) (htd:t∈p.darts) (hq:q∈p.darts)
  (hvt:g.tail t=g.tail o) (hvq:g.tail q=g.tail o) (hot:o≠t) (hoq:o≠q) (htq:t≠q)
  (hc:∀ u∈p.darts,g.tail u=g.tail o→c (u / 2)=(decide (u=o) ^^ decide (u=t)))
  (hk:∀ u∈p.darts,g.tail u=g.tail o→k (u / 2)=(decide (u=o) ^^ decide (u=q))):((χ q ^^ χ o) ^^ (ψ t ^^ ψ o))=true:=by
 obtain⟨A,B,h1,hn,h3⟩:=at_two hp ht ho htd hvt.symm hot
 have hn2:=List.nodup_append.1 hn
 have htA:t ∉ o :: A:=fun r=>hn2.2.2 t r t (by simp) rfl
 have hqm:q∈o :: A++t :: B:=(h3 q).2 ⟨hq,hvq⟩
 have hsubA:∀ u∈o :: A,u∈p.darts∧g.tail u=g.tail o:=fun u hu=>(h3 u).1 (by rw[List.mem_append];exact Or.inl hu)
 rcases List.mem_append.1 hqm with hqA | hqB
 ·have hqA:q∈A:=(List.mem_cons.1 hqA).resolve_left fun r=>hoq r.symm
  obtain⟨A1,A2,rfl⟩:=List.append_of_mem hqA
  have hnA:=hn2.1
  have hqA1:q ∉ o :: A1:=fun r=>by
   have:(o :: A1++q :: A2).Nodup:=hnA
   exact (List.nodup_append.1 this).2.2 q r q (by simp) rfl
  have hsub1:∀ u∈o :: A1,u∈o :: (A1++q :: A2):=fun u hu=>by
   rcases List.mem_cons.1 hu with r | r
   ·rw[r];simp
   simp[r]
  have e1:χ q=!χ o:=by
   have h1':Trail (Plain.before g turn) o (A1++q :: (A2++t :: B)) o:=by simpa using h1
   rw[h.trail h1' (fun u hu=>(hsubA u (hsub1 u hu)).1)]
   have hnd:(o :: A1).Nodup:=(List.nodup_append.1 (show (o :: A1++q :: A2).Nodup from hnA)).1
   rw[par_one (x:=o) hnd (by simp) (by rw[hc o ho rfl];simp[hot]) (fun u hu huo=>by
    rw[hc u (hsubA u (hsub1 u hu)).1 (hsubA u (hsub1 u hu)).2]
    have:u≠t:=fun r=>htA (r ▸ hsub1 u hu)
    simp[huo,this])]
   cases χ o <;> rfl
  have e2:ψ t=ψ o:=by
   rw[h2.trail h1 (fun u hu=>(hsubA u hu).1)]
   have:par (fun d=>k (d / 2)) (o :: (A1++q :: A2))=par (fun u=>decide (u=o) ^^ decide (u=q)) (o :: (A1++q :: A2)):=par_congr fun u hu=>hk u (hsubA u hu).1 (hsubA u hu).2
   rw[this,par_xor,par_one (x:=o) hnA (by simp) (by simp) (fun u _ r=>by simp[r]),par_one (x:=q) hnA (by simp) (by simp) (fun u _ r=>by simp[r])]
   cases ψ o <;> rfl
  rw[e1,e2]
  cases χ o <;> cases ψ o <;> rfl
 have hqB:q∈B:=(List.mem_cons.1 hqB).resolve_left fun r=>htq r.symm
 obtain⟨B1,B2,rfl⟩:=List.append_of_mem hqB
 have hqA:q ∉ o :: A:=fun r=>hn2.2.2 q r q (by simp) rfl
 have e1:χ q=χ o:=by
  have h1':Trail (Plain.before g turn) o ((A++t :: B1)++q :: B2) o:=by simpa using h1
  have hsub:∀ u∈o :: (A++t :: B1),u∈o :: A++t :: (B1++q :: B2):=fun u hu=>by
   simp only[List.cons_append,List.mem_cons,List.mem_append] at hu ⊢
   rcases hu with r | r | r | r
   ·exact Or.inl r
   ·exact Or.inr (Or.inl r)
   ·exact Or.inr (Or.inr (Or.inl r))
   exact Or.inr (Or.inr (Or.inr (Or.inl r)))
  rw[h.trail h1' (fun u hu=>((h3 u).1 (hsub u hu)).1)]
  have:par (fun d=>c (d / 2)) (o :: (A++t :: B1))=par (fun u=>decide (u=o) ^^ decide (u=t)) (o :: (A++t :: B1)):=par_congr fun u hu=>hc u ((h3 u).1 (hsub u hu)).1 ((h3 u).1 (hsub u hu)).2
  have hnd:(o :: (A++t :: B1)).Nodup:=by
   have:(o :: A++t :: (B1++q :: B2))=(o :: (A++t :: B1))++q :: B2:=by simp
   rw[this] at hn
   exact (List.nodup_append.1 hn).1
  rw[this,par_xor,par_one (x:=o) hnd (by simp) (by simp) (fun u _ r=>by simp[r]),par_one (x:=t) hnd (by simp) (by simp) (fun u _ r=>by simp[r])]
  cases χ o <;> rfl
 have e2:ψ t=!ψ o:=by
  rw[h2.trail h1 (fun u hu=>(hsubA u hu).1)]
  rw[par_one (x:=o) hn2.1 (by simp) (by rw[hk o ho rfl];simp[hoq]) (fun u hu huo=>by
   rw[hk u (hsubA u hu).1 (hsubA u hu).2]
   have:u≠q:=fun r=>hqA (r ▸ hu)
   simp[huo,this])]
  cases ψ o <;> rfl
 rw[e1,e2]
 cases χ o <;> cases ψ o <;> rfl
end
def chn (l:List Int) (e:Int):Bool:=par (fun d=>decide (d / 2=e)) l
theorem chn_append (l m:List Int) (e:Int):chn (l++m) e=(chn l e ^^ chn m e):=par_append _ _ _
theorem par_pair {f:Int→Bool} {a b:Int} (_hab:a≠b) {l:List Int} (hn:l.Nodup) (hf:∀ x∈l,f x=(decide (x=a) ^^ decide (x=b))):par f l=(decide (a∈l) ^^ decide (b∈l)):=by
 have:par f l=par (fun x=>decide (x=a) ^^ decide (x=b)) l:=par_congr hf
 rw[this,par_xor]
 have one:∀ a:Int,par (fun x=>decide (x=a)) l=decide (a∈l):=fun a=>by
  by_cases h:a∈l
  ·rw[par_one hn h (by simp) (fun d _ q=>by simp[q])];simp[h]
  rw[par_none (fun d hd=>by simp;exact fun q=>h (q ▸ hd))];simp[h]
 rw[one,one]
theorem half_iff {x d:Int}:decide (x / 2=d / 2)=(decide (x=d) ^^ decide (x=twin d)):=by
 have hne:=twin_ne d
 by_cases h:x / 2=d / 2
 ·rcases div_twin h with q | q
  ·subst q;simp[Ne.symm hne]
  subst q;simp[hne,twin_div]
 have h1:x≠d:=fun q=>h (by rw[q])
 have h2:x≠twin d:=fun q=>h (by rw[q,twin_div])
 simp[h,h1,h2]
theorem chn_dart {l:List Int} (hn:l.Nodup) (d:Int):chn l (d / 2)=(decide (d∈l) ^^ decide (twin d∈l)) :=
 par_pair (Ne.symm (twin_ne d)) hn fun _ _=>half_iff
theorem chn_off {l:List Int} {e:Int} (h:∀ d∈l,d / 2≠e):chn l e=false:=par_none fun d hd=>by simp[h d hd]
theorem deg_edge (hp:PartOk g p) (ht:TurnsOk g p turn) {d v:Int} (hd:d∈p.darts) (hv:v∈p.v):deg turn (fun e=>decide (e=d / 2)) v=(decide (g.tail d=v) ^^ decide (g.head d=v)):=by
 have h:=par_pair (f:=fun x=>decide (x / 2=d / 2)) (Ne.symm (twin_ne d)) (ht.nodup v) (fun _ _=>half_iff)
 show par (fun x=>decide (x / 2=d / 2)) (turnAt turn v)=_
 rw[h]
 have e1:d∈turnAt turn v↔g.tail d=v:=by rw[at_mem hp ht hv];simp[hd]
 have e2:twin d∈turnAt turn v↔g.head d=v:=by rw[at_mem hp ht hv,tail_twin];simp[twin_mem hd]
 simp[e1,e2]
theorem deg_link (hp:PartOk g p) (ht:TurnsOk g p turn) {v z:Int} (hv:v∈p.v):∀ {l:List Int} {a:Int},Link g a l z→(∀ d∈l,d∈p.darts)→deg turn (chn l) v=(decide (a=v) ^^ decide (z=v))
 | [],a,h,_=>by
  have e:a=z:=h
  have:deg turn (chn []) v=false:=par_none fun _ _=>rfl
  rw[this,e];simp
 | d :: l,a,h,hd=>by
  have ih:=deg_link hp ht hv h.2 (fun x hx=>hd x (List.mem_cons_of_mem _ hx))
  have e:chn (d :: l)=fun e=>decide (e=d / 2) ^^ chn l e:=by
   funext e
   show (decide (d / 2=e) ^^ chn l e)=_
   congr 1
   exact decide_eq_decide.2 ⟨fun q=>q.symm,fun q=>q.symm⟩
  rw[e,deg_xor,deg_edge hp ht (hd d (by simp)) hv,ih,h.1]
  cases decide (a=v) <;> cases decide (g.head d=v) <;> cases decide (z=v) <;> rfl
variable {g : Gr} {b q : Pt} {turn : List (List Int)}
structure Blob (g:Gr) (b:Pt) (on:Int→Bool) (S:List Int):Prop where
 hang:Hangs g on S
 shut:∀ e∈S,∀ f∈b.e,Lk g on e f→f∈S
 sub:∀ e∈S,e∈b.e
structure ChainAt (g:Gr) (b:Pt) (turn:List (List Int)) (on:Int→Bool) (S:List Int) (c:Int→Bool) (x y:Int):Prop where
 supp:∀ e,c e=true→e∈S
 deg:∀ v∈b.v,deg turn c v=(decide (x=v) ^^ decide (y=v))
 one:∃ q∈b.darts,g.tail q=x∧q / 2∈S∧∀ u∈b.darts,g.tail u=x→c (u / 2)=decide (u=q)
 none:∀ v,on v=true→v≠x→v≠y→∀ u∈b.darts,g.tail u=v→c (u / 2)=false
structure ChainTo (g:Gr) (b:Pt) (turn:List (List Int)) (on:Int→Bool) (S:List Int) (m v:Int) (c:Int→Bool):Prop where
 supp:∀ e,c e=true→e∈S
 deg:∀ u∈b.v,Plain.deg turn c u=(decide (m=u) ^^ decide (v=u))
 one:on v=true→∃ q∈b.darts,g.tail q=v∧q / 2∈S∧∀ u∈b.darts,g.tail u=v→c (u / 2)=decide (u=q)
 none:∀ w,on w=true→w≠v→∀ u∈b.darts,g.tail u=w→c (u / 2)=false
variable {g : Gr} {b : Pt} {turn : List (List Int)} {on : Int → Bool} {S : List Int}
theorem end_dart' {e v:Int} (he:e∈b.e) (h:EndOf g e v):∃ d∈b.darts,g.tail d=v∧d / 2=e:=by
 obtain⟨d,hd,e1⟩:=end_dart he h
 have:=mem_dartsAt.1 hd
 exact⟨d,this.1,this.2,e1⟩
theorem ChainTo.start {m:Int} (hm:on m=false):ChainTo g b turn on S m m (fun _=>false) :=
 ⟨fun e h=>(by cases h),fun u hu=>by rw[Bool.xor_self];exact par_none fun _ _=>rfl,fun h=>(by rw[hm] at h;cases h),fun _ _ _ _ _ _=>rfl⟩
theorem ChainTo.step (hp:PartOk g b) (ht:TurnsOk g b turn) {m d:Int} {c:Int→Bool} (h:ChainTo g b turn on S m (g.tail d) c) (hd:d∈b.darts) (hS:d / 2∈S) (hu:on (g.tail d)=false) (hne:g.tail d≠g.head d) :
  ChainTo g b turn on S m (g.head d) (fun e=>c e ^^ decide (e=d / 2)):=by
 have hdt:∀ u∈b.darts,u / 2=d / 2→u=d∨u=twin d:=fun u _ e=>div_twin e
 refine⟨fun e he=>?_,fun u hu=>?_,fun ho=>⟨twin d,twin_mem hd,by rw[tail_twin],by rw[twin_div];exact hS,fun u hud huv=>?_⟩,fun w hw hwv u hud huw=>?_⟩
 ·cases q:c e with
  | true=>exact h.supp e q
  | false =>
   rw[q,Bool.false_xor] at he
   rw[of_decide_eq_true he];exact hS
 ·rw[deg_xor,h.deg u hu,deg_edge hp ht hd hu]
  cases decide (m=u) <;> cases decide (g.tail d=u) <;> cases decide (g.head d=u) <;> rfl
 ·have h0:=h.none _ ho (Ne.symm hne) u hud huv
  rw[h0,Bool.false_xor]
  refine decide_eq_decide.2 ⟨fun e=>?_,fun e=>by rw[e,twin_div]⟩
  rcases hdt u hud e with q | q
  ·rw[q] at huv;exact absurd huv hne
  exact q
 have hwt:w≠g.tail d:=fun e=>by rw[e,hu] at hw;cases hw
 have h0:=h.none w hw hwt u hud huw
 rw[h0,Bool.false_xor]
 refine decide_eq_false fun e=>?_
 rcases hdt u hud e with q | q
 ·rw[q] at huw;exact hwt huw.symm
 rw[q,tail_twin] at huw;exact hwv huw.symm
theorem noloop_dart (hl:∀ e∈b.e,(g.at e).1≠(g.at e).2) {d:Int} (hd:d∈b.darts):g.tail d≠g.head d:=by
 have h:=hl _ (mem_darts.1 hd)
 unfold Gr.tail Gr.head
 split
 ·exact h
 exact Ne.symm h
theorem Blob.chains (hp:PartOk g b) (ht:TurnsOk g b turn) (hl:∀ e∈b.e,(g.at e).1≠(g.at e).2) (hS:Blob g b on S) :
  ∃ cc:Int→Int→Bool,∀ x∈endsOf g on S,∀ y∈endsOf g on S,x≠y→ChainAt g b turn on S (fun e=>cc x e ^^ cc y e) x y:=by
 by_cases hm:∃ e0∈S,∃ m,EndOf g e0 m∧on m=false
 ·obtain⟨e0,he0,m,hm0,hm1⟩:=hm
  let Good:Int→Prop:=fun e=>∀ v,EndOf g e v→on v=false→∃ c,ChainTo g b turn on S m v c
  have along:∀ e∈S,∀ w,EndOf g e w→on w=false→(∃ c,ChainTo g b turn on S m w c)→∀ v,EndOf g e v→v≠w→∃ c,ChainTo g b turn on S m v c:=by
   rintro e he w hw hwo ⟨c,hc⟩ v hv hvw
   obtain⟨d,hd,hdw,rfl⟩:=end_dart' (hS.sub e he) hw
   have hhv:v=g.head d:=(end_head hv).resolve_left fun q=>hvw (q.trans hdw)
   rw[←hdw] at hc hwo
   have:=hc.step hp ht hd he hwo (noloop_dart hl hd)
   rw[←hhv] at this
   exact⟨_,this⟩
  have g0:Good e0:=fun v hv ho=>by
   by_cases q:v=m
   ·subst q;exact⟨_,ChainTo.start ho⟩
   exact along e0 he0 m hm0 hm1 ⟨_,ChainTo.start hm1⟩ v hv q
  have gl:∀ e∈S,∀ f∈S,Lk g on e f→Good e→Good f:=fun e he f hf ⟨w,hw,h1,h2⟩ hg v hv ho=>by
   have hc:=hg w h1 hw
   by_cases q:v=w
   ·subst q;exact hc
   exact along f hf w h2 hw hc v hv q
  have gall:∀ f∈S,Good f:=fun f hf=>by
   have:=hS.hang (fun e f=>Good e↔Good f) ⟨fun _=>Iff.rfl,fun h=>h.symm,fun h k=>h.trans k⟩ (fun e he f hf hk=>⟨gl e he f hf hk,gl f hf e he (by obtain⟨w,a,b,c⟩:=hk;exact⟨w,a,c,b⟩)⟩) e0 he0 f hf
   exact this.1 g0
  have hto:∀ x,∃ c:Int→Bool,x∈endsOf g on S→ChainTo g b turn on S m x c:=fun x=>by
   by_cases hx:x∈endsOf g on S
   ·obtain⟨ho,e,he,hex⟩:=mem_endsOf.1 hx
    obtain⟨d,hd,hdx,rfl⟩:=end_dart' (hS.sub e he) hex
    by_cases hu:on (g.head d)=false
    ·obtain⟨c,hc⟩:=along _ he (g.head d) (dart_end g d).2 hu (gall _ he _ (dart_end g d).2 hu) x hex (by rw[←hdx];exact noloop_dart hl hd)
     exact⟨c,fun _=>hc⟩
    -- both ends drawn: alone
    exfalso
    have hu:on (g.head d)=true:=by cases q:on (g.head d);exact absurd q hu;rfl
    have hend:∀ v,EndOf g (d / 2) v→on v=true:=fun v hv=>by
     rcases end_head hv with q | q
     ·rw[q,hdx];exact ho
     rw[q];exact hu
    have:=hS.hang (fun a c=>a=d / 2↔c=d / 2) ⟨fun _=>Iff.rfl,fun h=>h.symm,fun h k=>h.trans k⟩ (fun a _ c _ ⟨w,hw,h1,h2⟩=>⟨fun q=>absurd (hend w (q ▸ h1)) (by rw[hw];simp),fun q=>absurd (hend w (q ▸ h2)) (by rw[hw];simp)⟩) (d / 2) he e0 he0
    rw[this.1 rfl] at hm0
    rw[hend m hm0] at hm1;cases hm1
   exact⟨fun _=>false,fun q=>absurd q hx⟩
  obtain⟨cc,hcc⟩:∃ cc:Int→Int→Bool,∀ x,x∈endsOf g on S→ChainTo g b turn on S m x (cc x):=⟨fun x=>Classical.choose (hto x),fun x=>Classical.choose_spec (hto x)⟩
  refine⟨cc,fun x hx y hy hxy=>?_⟩
  have h1:=hcc x hx
  have h2:=hcc y hy
  generalize cc x=c1 at *
  generalize cc y=c2 at *
  have ox:=(mem_endsOf.1 hx).1
  refine⟨fun e he=>?_,fun v hv=>?_,?_,fun v hv hvx hvy u hu huv=>?_⟩
  ·cases q:c1 e with
   | true=>exact h1.supp e q
   | false =>
    rw[q,Bool.false_xor] at he
    exact h2.supp e he
  ·rw[deg_xor,h1.deg v hv,h2.deg v hv]
   cases decide (m=v) <;> cases decide (x=v) <;> cases decide (y=v) <;> rfl
  ·obtain⟨q,q1,q2,q3,q4⟩:=h1.one ox
   exact⟨q,q1,q2,q3,fun u hu huv=>by rw[q4 u hu huv,h2.none x ox hxy u hu huv,Bool.xor_false]⟩
  rw[h1.none v hv hvx u hu huv,h2.none v hv hvy u hu huv];rfl
 have hon:∀ e∈S,∀ v,EndOf g e v→on v=true:=fun e he v hv=>by
  cases q:on v with
  | true=>rfl
  | false=>exact absurd ⟨e,he,v,hv,q⟩ hm
 by_cases h0:S=[]
 ·refine⟨fun _ _=>false,fun x hx=>?_⟩
  rw[h0] at hx
  obtain⟨_,e,he,_⟩:=mem_endsOf.1 hx
  simp at he
 obtain⟨e0,he0⟩:=List.exists_mem_of_ne_nil S h0
 have hall:∀ f∈S,f=e0:=fun f hf=>by
  have:=hS.hang (fun a c=>a=e0↔c=e0) ⟨fun _=>Iff.rfl,fun h=>h.symm,fun h k=>h.trans k⟩ (fun a ha c _ ⟨w,hw,h1,h2⟩=>by rw[hon a ha w h1] at hw;cases hw) e0 he0 f hf
  exact this.1 rfl
 have hends:∀ x∈endsOf g on S,EndOf g e0 x:=fun x hx=>by
  obtain⟨_,e,he,h⟩:=mem_endsOf.1 hx
  rw[hall e he] at h;exact h
 refine⟨fun x e=>decide (x=(g.at e0).1)&&decide (e=e0),fun x hx y hy hxy=>?_⟩
 have hc:(fun e=>(decide (x=(g.at e0).1)&&decide (e=e0)) ^^ (decide (y=(g.at e0).1)&&decide (e=e0)))=fun e=>decide (e=e0):=by
  funext e
  rcases hends x hx with a | a <;> rcases hends y hy with c | c
  ·exact absurd (a.symm.trans c) hxy
  ·rw[a];have:y≠x:=Ne.symm hxy;simp[this]
  ·rw[c];simp[hxy]
  exact absurd (a.symm.trans c) hxy
 rw[hc]
 obtain⟨d,hd,hdx,rfl⟩:=end_dart' (hS.sub e0 he0) (hends x hx)
 have hdy:g.head d=y:=((end_head (hends y hy)).resolve_left fun q=>hxy (hdx.symm.trans q.symm)).symm
 refine⟨fun e he=>by rw[of_decide_eq_true he];exact he0,fun v hv=>by rw[deg_edge hp ht hd hv,hdx,hdy],⟨d,hd,hdx,he0,fun u hu huv=>?_⟩,fun v hv hvx hvy u hu huv=>?_⟩
 ·refine decide_eq_decide.2 ⟨fun e=>?_,fun e=>by rw[e]⟩
  rcases div_twin e with q | q
  ·exact q
  rw[q,tail_twin,hdy] at huv;exact absurd huv.symm hxy
 refine decide_eq_false fun e=>?_
 rcases div_twin e with q | q
 ·rw[q,hdx] at huv;exact hvx huv.symm
 rw[q,tail_twin,hdy] at huv;exact hvy huv.symm
theorem Blob.colour (hp:PartOk g b) (ht:TurnsOk g b turn) (hS:Blob g b on S) {c χ:Int→Bool} (h:Col g b turn c χ) (h0:∀ e∈S,c e=false)
  (h1:∀ v,on v=false→(∃ e∈S,EndOf g e v)→∀ u∈b.darts,g.tail u=v→c (u / 2)=false):∀ d∈b.darts,d / 2∈S→∀ d'∈b.darts,d' / 2∈S→χ d=χ d':=by
 have htw:∀ d∈b.darts,d / 2∈S→χ (twin d)=χ d:=fun d hd hs=>by rw[h.twin d hd,h0 _ hs,Bool.xor_false]
 have hhalf:∀ d∈b.darts,d / 2∈S→∀ d'∈b.darts,d' / 2=d / 2→χ d'=χ d:=fun d hd hs d' hd' e=>by
  rcases div_twin e with q | q
  ·rw[q]
  rw[q];exact htw d hd hs
 intro d hd hs d' hd' hs'
 have hm:∀ e∈S,2*e∈b.darts∧2*e / 2=e:=fun e he=>⟨mem_darts.2 (by rw[show 2*e / 2=e by omega];exact hS.sub e he),by omega⟩
 have hev:∀ d∈b.darts,d / 2∈S→χ d=χ (2*(d / 2)):=fun d hd hs=>by
  obtain⟨m0,m1⟩:=hm _ hs
  exact hhalf _ m0 (by rw[m1];exact hs) d hd m1.symm
 have:=hS.hang (fun e f=>χ (2*e)=χ (2*f)) ⟨fun _=>rfl,fun h=>h.symm,fun h k=>h.trans k⟩ (fun e he f hf ⟨v,hv,e1,f1⟩=>by
  obtain⟨d1,k1,k2,rfl⟩:=end_dart' (hS.sub e he) e1
  obtain⟨d2,k3,k4,rfl⟩:=end_dart' (hS.sub f hf) f1
  rw[←hev d1 k1 he,←hev d2 k3 hf]
  exact h.same hp ht k1 k3 (k2.trans k4.symm) fun u hu hv'=>h1 v hv ⟨_,he,e1⟩ u hu (hv'.trans k2)) (d / 2) hs (d' / 2) hs'
 rw[hev d hd hs,hev d' hd' hs',this]
end Go.Proofs.Ytbkjljffnkdcjaa.Plain
