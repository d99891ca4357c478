/- Blocks of a part: its ag parted; a part is one block just if no iq takes two of its ag apart. No program here. -/
import Derived.Test.YtoiflofhcmjpoaaGreatF9Same4
import Derived.Maps.Range
set_option maxRecDepth 100000
set_option maxHeartbeats 4000000
open Classical renaming byContradiction→Qa
open Or renaming inl→Qb,inr→Ql
open Go.Value renaming ownBlock→Qc,slice→Qu
open List renaming flatten_cons→Qd,filter_cons_of_pos→Qe,filter_cons_of_neg→Qf,length_drop→Qg,mem_append_left→Qh,append_nil→Qi,exists_mem_of_ne_nil→Qj,length_pos_of_mem→Qm,flatten_append→Qn,range→Qo,nodup_append→Qp,length_take→Qq,nodup_cons→Qs
open Nat renaming le_refl→Qk,min_eq_left→Qr
open Option renaming some→Qt
namespace Go.Proofs.YtoiflofhcmjpoaaGreat.Plain
variable {v e:Int}
variable {g : Gr} {p : Pt}
theorem sO (hp:aD g p):∀ (n:Nat) (s:dW) (A:List Int) (v via:Int),xD g p s A v via->C' p s<=n->cF g p s (visit g p n v via s) A v via (aE g p v):=by
 intro n
 induction n with
 | zero =>
  intro s A v via hE hn;have:0<C' p s:=Qm (List.mem_filter.2 ⟨hE.vV,decide_eq_true hE.vn⟩);omega
 | succ n ih =>
  intro s A v via hE hn;have fold:∀ (rest pre:List Int) (t:dW),pre++rest=aE g p v->cF g p s t A v via pre->cF g p s (rest.foldl (fS (visit g p n) g v via) t) A v via (aE g p v):=by
   intro rest
   induction rest with
   | nil=>intro pre t e h;rw[Qi] at e;rw[<-e];exact h
   | cons d rest ih2 =>
    intro pre t e h;refine ih2 (pre++[d]) _ (by grind) ?_;have uN:d∈aE g p v:=by rw[<-e];simp
    obtain⟨hd,hv⟩:=aX.1 uN;have Ct:d ∉ pre:=λq=>by
     have gp:(aE g p v).Nodup:=List.Pairwise.filter _ (cV hp.en)
     grind
    have uA:=h.sN hE;unfold fS;by_cases c1:g.head d=v
    ·rw[if_pos c1];exact h.loop hp hE hd hv c1
    rw[if_neg c1];by_cases c2:d / 2=via
    ·rw[if_pos c2]
     have hA:=hE.tx hp hd hv c2;exact h.same (h.mono (hE.cd.act _ hA)) (λ_ q=>absurd c2 q) λq=>absurd c2 q
    rw[if_neg c2];by_cases c3:t.met (g.head d)=0
    ·rw[if_pos c3]
     refine h.child hp hE hd hv Ct c2 c3 (ih _ _ _ _ (h.ent hp hE hd hv c3) ?_);have:C' p (t.push (d / 2))<C' p s:=by
      refine gQ (a:=v) (λx _ hx=>?_) hE.vV ?_ (decide_eq_true hE.vn)
      ·have hx:t.met x=0:=of_decide_eq_true hx
       exact decide_eq_true (Qa λq=>h.mono q hx)
      exact decide_eq_false uA.2
     omega
    rw[if_neg c3];by_cases c4:t.met (g.head d)<t.met v
    ·rw[if_pos c4];exact h.up hp hE hd hv Ct c1 c2 c3 c4
    rw[if_neg c4];have Bg:s.met (g.head d)=0:=Qa λq=>by
     have h1:=(hE.cd.num (g.head d)).2;rw[(h.old _ q).1,h.me] at c4;omega
    refine h.same c3 (λq=>absurd Bg (hE.cd.act _ q)) λq=>⟨q,aH d,bD hd,bJ d,by rw[az];exact⟨Bg,c3⟩,Qb (by grind [az])⟩
  exact fold _ [] _ rfl (cF.start hp hE)
def dW.zero:dW:=⟨λ_=>0,λ_=>0,0,[],[]⟩
def lq (g:Gr) (p:Pt) (n:Nat) (l:List Int) (s:dW):dW:=l.foldl (λs v=>if s.met v=0 then visit g p n v (-1) s else s) s
def findAll (g:Gr) (p:Pt):dW:=lq g p p.v.length p.v dW.zero
structure KY (g:Gr) (p:Pt) (s:dW):Prop where
 cd:DOk g p s []
 ed:s.ed=[]
 nd:s.bl.flatten.Nodup
 yY:∀ e,e∈s.bl.flatten↔∃ d∈p.ah,d / 2=e/\s.met (g.tail d)≠0
 fst:∀ B l,s.bl=B :: l->Fst g p B
 one:s.bl.length<=1->∀ z x y,(∃ d∈p.ah,g.tail d=x)->(∃ d∈p.ah,g.tail d=y)->s.met x≠0->s.met y≠0->x≠z->y≠z->bS g p z x y
theorem KY.start:KY g p dW.zero:=by
 refine⟨⟨Int.le_refl _,λx=>⟨Int.le_refl _,Int.le_refl _⟩,λx y h=>absurd rfl h,by simp,λx h=>absurd rfl h,λd _ h=>absurd rfl h,?_,?_,?_⟩,rfl,?_,λe=>?_,λB l h=>?_,λ_ z x y _ _ h=>absurd rfl h⟩
 ·intro l h;cases h
 ·intro l h;cases h
 ·intro l h;cases h
 ·exact List.nodup_nil
 ·constructor
  ·intro h;simp[dW.zero] at h
  rintro ⟨d,-,-,h⟩;exact absurd rfl h
 cases h
theorem KY.step (hp:aD g p) {s:dW} (h:KY g p s) (hv:v∈p.v) (hm:s.met v=0) {n:Nat} (hn:C' p s<=n):KY g p (visit g p n v (-1) s)/\(visit g p n v (-1) s).met v≠0/\∀ x,s.met x≠0->(visit g p n v (-1) s).met x≠0:=by
 have hE:xD g p s [] v (-1):=⟨h.cd,hv,hm,Qb ⟨rfl,rfl⟩,by rw[h.ed];simp,by rw[h.ed];simp⟩;have hS:=sO hp n s [] v (-1) hE hn;obtain⟨t,ht⟩:∃ t,visit g p n v (-1) s=t:=⟨_,rfl⟩;rw[ht] at hS ⊢;have uA:=hS.sN hE;obtain⟨R,N,e1,e2,e3,e4⟩:=hS.yY;have hR:R=[]:=by
  have:=hS.XI rfl;rw[e1] at this;exact List.append_cancel_left (this.trans (Qi _).symm)
 rw[hR,List.nil_append] at e3 e4;have asE:∀ d∈p.ah,d / 2≠-1:=λd hd q=>by have:=hp.er _ (au.1 hd);omega
 have Ob:∀ e,Xe g p s t v (-1) (aE g p v) e↔∃ d∈p.ah,d / 2=e/\eI s t (g.tail d):=λe=>by
  constructor
  ·rintro ⟨-,d,hd,h2,h3,-⟩;exact⟨d,hd,h2,h3⟩
  rintro ⟨d,hd,h2,h3⟩;exact⟨by grind,d,hd,h2,h3,(Classical.em (g.tail d=v)).elim (λq=>Ql (aX.2 ⟨hd,q⟩)) Qb⟩
 have hG:=hS.cd;refine⟨⟨⟨hG.et,hG.num,hG.inj,by simp,hG.PG,λd hd uN _=>?_,hG.AP,hG.PW,hG.oC⟩,?_,?_,λe=>?_,λB l hB=>?_,λhl z x y hx hy hmx hmy AG wX=>?_⟩,uA.2,λx hx=>hS.mono hx⟩
 ·by_cases q:g.tail d=v
  ·exact hS.seen d (aX.2 ⟨hd,q⟩)
  exact hG.fin d hd uN (by grind)
 ·rw[e1,hR,h.ed];rfl
 ·rw[e2,Qn,Qp]
  refine⟨h.nd,e3,λa ha b hb q=>?_⟩;subst q;obtain⟨d,hd,h2,h3⟩:=(Ob a).1 ((e4 a).1 hb);obtain⟨c,hc,k2,k3⟩:=(h.yY a).1 ha;rcases gL (k2.trans h2.symm) with r | r
  ·rw[r] at k3;exact k3 h3.1
  have:=h.cd.fin c hc k3 (by simp);rw[<-az,<-r] at this;exact this h3.1
 ·rw[e2,Qn,List.mem_append,h.yY,e4,Ob]
  constructor
  ·rintro (⟨d,hd,h2,h3⟩ | ⟨d,hd,h2,h3⟩)
   ·exact⟨d,hd,h2,hS.mono h3⟩
   exact⟨d,hd,h2,h3.2⟩
  rintro ⟨d,hd,h2,h3⟩;by_cases q:s.met (g.tail d)=0
  ·exact Ql ⟨d,hd,h2,q,h3⟩
  all_goals grind
 ·cases hq:s.bl with
  | nil=>exact hS.fst hq B l hB
  | cons B' l' =>
   rw[e2,hq,List.cons_append] at hB;injection hB with k1 k2;rw[<-k1];exact h.fst B' l' hq
 rw[e2,List.length_append] at hl;by_cases hN:N=[]
 ·have hb:t.bl=s.bl:=by rw[e2,hN,Qi]
  have gV:∀ u,(∃ d∈p.ah,g.tail d=u)->t.met u≠0->s.met u≠0:=by
   rintro u ⟨d,hd,rfl⟩ hu q;have:=(e4 (d / 2)).2 ((Ob _).2 ⟨d,hd,rfl,q,hu⟩)
   grind
  exact h.one (by grind) z x y hx hy (gV x hx hmx) (gV y hy hmy) AG wX
 have hNl:=List.length_pos_iff.2 hN;have H':s.bl=[]:=List.length_eq_zero_iff.1 (by omega);have xp:∀ u,(∃ d∈p.ah,g.tail d=u)->t.met u≠0->eI s t u:=by
  rintro u ⟨d,hd,rfl⟩ hu;refine⟨Classical.byContradiction λq=>?_,hu⟩;have:=(h.yY (d / 2)).2 ⟨d,hd,rfl,q⟩
  grind
 have nx:=xp x hx hmx;have ny:=xp y hy hmy;by_cases hz:eI s t z
 ·exact hS.aiG rfl (by grind) z x y hz nx ny AG wX
 have hvz:v≠z:=λq=>hz (q ▸ uA);exact ((hS.tree x nx z hz).symm hvz).2.trans (hS.tree y ny z hz)
theorem kG (hp:aD g p):KY g p (findAll g p)/\∀ v∈p.v,(findAll g p).met v≠0:=by
 have key:∀ (l:List Int) (s:dW),(∀ v∈l,v∈p.v)->KY g p s->KY g p (lq g p p.v.length l s)/\(∀ v∈l,(lq g p p.v.length l s).met v≠0)/\∀ x,s.met x≠0->(lq g p p.v.length l s).met x≠0:=by
  intro l
  induction l with
  | nil=>intro s _ h;exact⟨h,by simp,λ_ h=>h⟩
  | cons v l ih =>
   intro s hl h;have hu:C' p s<=p.v.length:=List.length_filter_le _ _;show KY g p (lq g p p.v.length l (if s.met v=0 then visit g p p.v.length v (-1) s else s))/\(∀ u∈v :: l,(lq g p p.v.length l (if s.met v=0 then visit g p p.v.length v (-1) s else s)).met u≠0)/\∀ x,s.met x≠0->(lq g p p.v.length l (if s.met v=0 then visit g p p.v.length v (-1) s else s)).met x≠0;by_cases q:s.met v=0
   ·rw[if_pos q]
    obtain⟨h1,h2,h3⟩:=h.step hp (hl v (by simp)) q hu
    grind
   all_goals grind
 obtain⟨h1,h2,-⟩:=key p.v dW.zero (λ_ h=>h) KY.start;exact⟨h1,h2⟩
theorem eP (hp:aD g p):(findAll g p).bl.flatten.Perm p.e:=by
 obtain⟨h1,h2⟩:=kG hp;refine (List.perm_ext_iff_of_nodup h1.nd hp.en).2 λe=>?_;rw[h1.yY];constructor
 ·grind [au]
 intro he;obtain⟨d,hd,h3,-⟩:=CR (g:=g) he
 grind [aD.aP]
def off (g:Gr) (v e:Int):Int:=if (g.at e).1=v then (g.at e).2 else (g.at e).1
def pZ (g:Gr) (p:Pt) (v e f:Int):Prop:=e≠f/\(((g.at e).1=v/\(g.at e).2=v)\/((g.at f).1=v/\(g.at f).2=v)\/¬ bS g p v (off g v e) (off g v f))
def cg (g:Gr) (p:Pt):Prop:=(∃ e0 l,p.e=e0 :: l/\∀ e∈p.e,∀ v∈p.v,¬ pZ g p v e0 e)/\∀ v∈p.v,∃ d∈p.ah,g.tail d=v
theorem lg (h:¬ ((g.at e).1=v/\(g.at e).2=v)):off g v e≠v:=by
 all_goals grind [off]
theorem yV (he:e∈p.e):∃ d∈p.ah,d / 2=e/\g.tail d=off g v e:=by
 obtain⟨d,hd,h1,h2,h3⟩:=CR (g:=g) he;unfold off;split
 ·exact⟨aH d,bD hd,by grind [bJ],by grind [az]⟩
 all_goals grind
theorem Cs (hp:aD g p):((findAll g p).bl.length=1/\∀ v∈p.v,∃ d∈p.ah,g.tail d=v)↔cg g p:=by
 obtain⟨h1,h2⟩:=kG hp;have dm:=eP hp;constructor
 ·rintro ⟨hl,hV⟩
  refine⟨?_,hV⟩;obtain⟨l,hB⟩:=List.length_eq_one_iff.1 hl;have Z':l∈(findAll g p).bl:=by rw[hB];simp
  rw[hB,Qd,List.flatten_nil,Qi] at dm;cases he:p.e with
  | nil=>rw[he] at dm;exact absurd (List.perm_nil.1 dm) (h1.cd.AP l Z')
  | cons e0 r =>
   refine⟨e0,r,rfl,λe rA v hv=>?_⟩;rw[<-he] at rA;rintro ⟨bn,fy⟩;have jV:∀ x∈p.e,¬ ((g.at x).1=v/\(g.at x).2=v):=λx hx q=>by
    have h3:=h1.cd.oC l Z' x (dm.mem_iff.2 hx) (q.1.trans q.2.symm);have m1:=dm.mem_iff.2 (show e0∈p.e by grind)
    grind
   have lZ:e0∈p.e:=by rw[he];simp
   rcases fy with q | q | q
   ·exact jV e0 lZ q
   ·exact jV e rA q
   obtain⟨d,hd,-,k1⟩:=yV (g:=g) (v:=v) lZ;obtain⟨c,hc,-,k2⟩:=yV (g:=g) (v:=v) rA;exact q (h1.one (by omega) v _ _ ⟨d,hd,k1⟩ ⟨c,hc,k2⟩ (by rw[<-k1];exact h2 _ (hp.aP hd).1) (by rw[<-k2];exact h2 _ (hp.aP hc).1) (lg (jV e0 lZ)) (lg (jV e rA)))
 rintro ⟨⟨e0,r,he,Ti⟩,hV⟩;refine⟨?_,hV⟩;have lZ:e0∈p.e:=by rw[he];simp
 match hq:(findAll g p).bl with
 | [] =>
  grind
 | [_]=>rfl
 | B1 :: B2 :: rest =>
  exfalso;have gp:=h1.nd;rw[hq,Qd,Qd] at gp;have iz:B1≠[]:=h1.cd.AP B1 (by grind);have gY:B2≠[]:=h1.cd.AP B2 (by grind);obtain⟨f,hf⟩:=Qj _ gY;obtain⟨e,wO⟩:=Qj _ iz;have acn:f ∉ B1:=λq=>(Qp.1 gp).2.2 f q f (Qh _ hf) rfl;have dE:∀ x,x∈B1\/x∈B2->x∈p.e:=λx hx=>dm.mem_iff.1 (by
   rw[hq,Qd,Qd];rcases hx with q | q
   ·exact Qh _ q
   exact List.mem_append_right _ (Qh _ q))
  have hep:=dE e (Qb wO);have Xd:=dE f (Ql hf);rcases h1.fst B1 _ hq with ⟨x,hx,hB,AT⟩ | ⟨z,hz,Y,hzY,lu,hBY⟩
  .-- a loop
   have hu:(g.at x).1∈p.v:=(hp.ends x hx).1;by_cases q:e0=x
   ·refine Ti f Xd _ hu ⟨λr=>acn (by grind),Qb ?_⟩
    grind
   exact Ti x hx _ hu ⟨q,Ql (Qb ⟨rfl,AT.symm⟩)⟩
  have lr:∀ x∈B1,Y (off g z x):=λx hx=>by
   all_goals grind [off,iO]
  have Fb:∀ x∈p.e,x ∉ B1->¬ Y (off g z x):=λx hx hxB q=>by
   obtain⟨c,hc,k1,k2⟩:=yV (g:=g) (v:=z) hx
   grind
  have BW:∀ a b,Y a->bS g p z a b->Y b:=λa b ha hc=>by
   induction hc with
   | here=>exact ha
   | step _ hn hs ih2 =>
    obtain⟨d,hd,hh⟩:=(FP hp).1 hn
    grind
  by_cases q:e0∈B1
  ·exact Ti f Xd z hz ⟨λr=>acn (r ▸ q),Ql (Ql λhc=>Fb f Xd acn (BW _ _ (lr e0 q) hc))⟩
  by_cases AT:(g.at e0).1=z/\(g.at e0).2=z
  ·exact Ti e hep z hz ⟨λr=>q (r ▸ wO),Qb AT⟩
  exact Ti e hep z hz ⟨λr=>q (r ▸ wO),Ql (Ql λhc=>Fb e0 lZ q (BW _ _ (lr e wO) (hc.symm (lg AT)).2))⟩
end Go.Proofs.YtoiflofhcmjpoaaGreat.Plain
namespace Go.Proofs.YtoiflofhcmjpoaaGreat
open Plain
open Go.RowKit Go.Maps Go.ChangeShapes
variable {u v:Value} {w w':World} {b n:Nat} {F:Int->Option Value} {k:Int}
def sA:Value->Option (DataW Unit × List MemPlace)
 | .slice none n c=>some (.slice (lits .i64 [(n:Int),(c:Int)]) [],[])
 | .slice (some ⟨b,off,none⟩) n c=>some (.slice (lits .i64 [(b:Int),(off:Int),(n:Int),(c:Int)]) [],[])
 | _=>none
theorem Kq {d:DataW Unit} {ps qs:List MemPlace} (hu:sA u=some (d,ps)) (hv:sA v=some (d,qs)):u=v:=by
 unfold sA at hu hv;split at hu <;> split at hv <;> simp only[Qt.injEq,Prod.mk.injEq,reduceCtorEq] at hu hv
 ·grind [yv]
 all_goals grind [yv]
def Af:Value:=.slice none 0 0
def Vn (v:Value):DataW Unit:=match sA v with | some x=>x.1 | none=>.nil
def yW (v:Value):Prop:=∃ ps,sA v=some (Vn v,ps)
theorem yW.none (n c:Nat):yW (.slice none n c):=⟨[],rfl⟩
theorem yW.some (b off n c:Nat):yW (.slice (some ⟨b,off,.none⟩) n c):=⟨[],rfl⟩
def jJ (w:World) (b n:Nat) (F:Int->Option Value):Prop :=
 ∃ D:DataW Unit,w.ownsMap Tryz.prog 3 sA b n D/\∀ x,bF x->Maps.has D (.int .i64 x)=(F x).isSome/\yW ((F x).getD Af)/\D.atKey (.int .i64 x) (Vn Af)=Vn ((F x).getD Af)
theorem jJ.made (w:World):jJ (w.alloc (.map #[] 0)) w.heap.size 0 (λ_=>none) :=
 ⟨.map [],World.ownsMap_made _ _ _ _,λ_ _=>⟨rfl,yW.none 0 0,rfl⟩⟩
theorem jJ.lt (h:jJ w b n F):b<w.heap.size:=by obtain⟨D,h,_⟩:=h;exact h.lt
theorem jJ.aL {own:List Nat} (h:jJ w b n F) (hc:ai own w w') (hb:b ∉ own):jJ w' b n F:=by
 obtain⟨D,⟨es,clock,he,r⟩,g⟩:=h;exact⟨D,⟨es,clock,hc.heap he hb,r⟩,g⟩
theorem jJ.ne (h:jJ w b n F) {k:Nat} {cs:Array Value} {t:TypeId} {r:Nat × Nat} (hk:w.heap[k]?=some (.cells cs t r)):k≠b:=by
 obtain⟨D,⟨es,clock,he,_⟩,_⟩:=h
 grind
theorem jJ.ya (h:jJ w b n F) (hk:bF k):(Instr.lookup 97 (.map (some b)) (.int .i64 k) false).run Tryz.prog w=.ok ((F k).getD Af) w:=by
 obtain⟨D,b9,hD⟩:=h;obtain⟨h1,⟨ps,h2⟩,h3⟩:=hD k hk;obtain⟨v,qs,ke,hv⟩:=b9.lookup dX Tryz.underlying97 (DT w) (zd:=Vn Af) (zp:=[]) rfl (keyOf_int_mk Tryz.underlying3 hk)
 grind [Kq]
theorem jJ.CJ (h:jJ w b n F) (hn:n<maxLen) (hk:bF k) (hv:yW v) :
  ∃ w',(Instr.mapUpdate 97 (.map (some b)) (.int .i64 k) v).run Tryz.prog w=.ok () w'/\jJ w' b (n+1) (λy=>if y=k then some v else F y)/\ai [b] w w':=by
 obtain⟨D,b9,hD⟩:=h;obtain⟨ps,UT⟩:=hv;have KK:=keyOf_int_mk Tryz.underlying3 hk;obtain⟨w',ke,h1,h2⟩:=b9.store dX Tryz.underlying97 hn KK UT;refine⟨w',ke,⟨_,h1,λy hy=>?_⟩,(ai.refl _ _).grown h2.grown (λj hj=>by cases hj;exact Qb (by simp))⟩;by_cases e:y=k
 ·subst e
  have rI:=dX.key KK;rw[has_put_same b9.isMap rI,atKey_put_same b9.isMap rI];simp only[if_true];exact⟨rfl,⟨ps,UT⟩,rfl⟩
 rw[has_put_other (zA e),atKey_put_other (zA e)]
 grind
section
variable {ops : Array Oper} {rest : List Oper} {o : Oper} {a : Act} {Q : Exit -> Act -> World -> Prop} {w : World}
theorem OR (hg:o.guard=none) (m x u:Operand) (sH:o.op=Op.mapUpdate 97 m x u) {b n:Nat} {F:Int->Option Value} (h:jJ w b n F) (hn:n<maxLen) (hm:a.eval m=.map (some b)) {k:Int} (hk:bF k) (hx:a.eval x=.int .i64 k) {v:Value} (hu:a.eval u=v) (hv:yW v)
  (hK:∀ w2,jJ w2 b (n+1) (λy=>if y=k then some v else F y)->ai [b] w w2->wpList Tryz.prog ops Q rest (a.put o.dst undef) w2):wpList Tryz.prog ops Q (o :: rest) a w:=by
 refine wpList_plain hg λK' Bm=>?_;obtain⟨w2,ke,r1,r2⟩:=h.CJ hn hk hv;unfold Oper.wp;simp[execOp,sH,hm,hx,hu,ke,Result.andThen];exact Bm _ _ (hK w2 r1 r2)
end
end Go.Proofs.YtoiflofhcmjpoaaGreat
namespace Go.Proofs.YtoiflofhcmjpoaaGreat
open Plain
open Go.RowKit Go.Maps
variable {w w':World} {B n i b v m:Nat} {g:Plain.Gr} {l:List Int} {f:Int->Int} {ev:Value} {F:Int->Option Value} {bl:List (List Int)} {s:Plain.dW}
namespace Plain
def yq (g:Gr) (p:Pt) (s:dW):Nat:=((p.v.filter λu=>decide (s.met u=0)).map λu=>(aE g p u).length+1).sum
end Plain
theorem aw.cut {g c:Nat} (h:aw w B (.slice (.some ⟨g,0,none⟩) n c) l) (hi:i<=l.length):aw w B (.slice (.some ⟨g,0,none⟩) i c) (l.take i):=by
 have hl:(l.take i).length=i:=by rw[Qq];omega
 refine⟨⟨by rw[hl];unfold _root_.Go.Proofs.YtoiflofhcmjpoaaGreat.ints;rw[List.length_map,hl];omega,?_⟩,λx hx=>h.2.1 x (List.mem_of_mem_take hx),by have:=h.2.2;omega⟩;rw[hl];rcases h.1.2 with ⟨e,-⟩ | ⟨g',cap,cur,e,hg,hh,hn,hm,hs,ht⟩
 ·cases e
 simp only[Qu.injEq,Qt.injEq,Addr.mk.injEq,and_true] at e;obtain⟨rfl,-,rfl⟩:=e;refine Ql ⟨g,c,cur,rfl,hg,hh,by omega,hm,hs,?_⟩;rw[Nat.mul_one] at ht ⊢;have h2:cur.toList.take i=(cur.toList.take l.length).take i:=by rw[List.take_take,Qr hi]
 rw[h2,ht];unfold _root_.Go.Proofs.YtoiflofhcmjpoaaGreat.ints;rw[List.map_take]
def kl (w:World) (b n:Nat) (f:Int->Int):Prop:=aw w 0 (.slice (some ⟨b,0,none⟩) n n) ((Qo n).map λi:Nat=>f i)
theorem ann (n:Nat) (f:Int->Int) (hi:i<n):((Qo n).map λi:Nat=>f i).getD i 0=f i:=by grind
theorem kl.cell (h:kl w b n f) (hv:v<n):w.cell? ⟨b,v,none⟩=some (.int .i64 (f v)):=by
 obtain⟨g,e,hc⟩:=aw.some h (by simp;omega)
 grind
theorem kl.free (h:kl w b n f) (hn:0<n) (i:Nat):w.frozen? ⟨b,i,none⟩=false:=aw.free h (by simpa using hn) i
theorem kl.i64 (h:kl w b n f) (hv:v<n):bF (f v):=h.2.1 _ (List.mem_map.2 ⟨v,List.mem_range.2 hv,rfl⟩)
theorem kl.aL {own:List Nat} (h:kl w b n f) (hc:ai own w w') (hb:b ∉ own):kl w' b n f:=aw.aL h hc (λj hj=>by
 have h1:j∈[b]:=hj;rw[List.mem_singleton.1 h1];exact hb)
theorem kl.set (h:kl w b n f) (_hv:v<n) {x:Int} (hx:bF x):kl (w.setCell ⟨b,v,none⟩ (.int .i64 x)) b n (Plain.qZ f v x):=by
 have:=aw.set h v x hx;unfold kl;have e:((Qo n).map λi:Nat=>f i).set v x=(Qo n).map λi:Nat=>Plain.qZ f v x i:=by
  refine List.ext_getElem (by simp) λi h1 h2=>?_
  all_goals grind [Plain.qZ]
 rwa[e] at this
theorem kl.kind (h:kl w b n f):∃ cs,w.heap[b]?=some (.cells cs 3 (0,0)):=by
 rcases h.1.2 with ⟨e,-⟩ | ⟨g',cap,cur,e,-,hh,-⟩
 all_goals grind
def Rel (w:World) (B:Nat) (ev:Value) (F:Int->Option Value) (bl:List (List Int)):Prop :=
 (∀ l∈bl,∃ v,F (l.getD 0 0)=some v/\aw w B v l/\∀ b,v.ownBlock=some b->ev.ownBlock≠some b)/\∀ k v,F k=some v->∃ l∈bl,l.getD 0 0=k
theorem Rel.put {v:Value} (h:Rel w B ev F bl) (hv:aw w B v l) (ho:∀ b,v.ownBlock=some b->ev.ownBlock≠some b):Rel w B ev (λy=>if y=l.getD 0 0 then some v else F y) (mq l bl):=by
 have jA:∀ m,m∈mq l bl->m=l\/(m∈bl/\m.getD 0 0≠l.getD 0 0):=λm hm=>by
  all_goals grind [mq]
 have hl:l∈mq l bl:=by
  all_goals grind [mq]
 have ajb:∀ m∈bl,m.getD 0 0≠l.getD 0 0->m∈mq l bl:=λm hm q=>by
  all_goals grind [mq]
 refine⟨λm hm=>?_,λk u hk=>?_⟩
 ·rcases jA m hm with q | ⟨q,r⟩
  ·rw[q];exact⟨v,if_pos rfl,hv,ho⟩
  obtain⟨u,h1,h2,h3⟩:=h.1 m q;exact⟨u,by simp only[if_neg r];exact h1,h2,h3⟩
 by_cases q:k=l.getD 0 0
 ·exact⟨l,hl,q.symm⟩
 simp only[if_neg q] at hk;obtain⟨m,hm,e⟩:=h.2 k u hk;exact⟨m,ajb m hm (by rw[e];exact q),e⟩
structure FK where
 w0:World
 pb:Nat
 mb:Nat
 lb:Nat
 mp:Nat
 n:Nat
 gE:Value
 dv:Value
def FK.own (k:FK):List Nat:=[k.pb,k.mb,k.lb,k.mp]
structure dy (k:FK) (g:Plain.Gr) (w:World) (s:Plain.dW) (ev:Value) (m:Nat) (F:Int->Option Value):Prop where
 row:w.heap[k.pb]?=some (.cells #[.int .i64 g.n,k.gE,k.dv,.slice (some ⟨k.mb,0,none⟩) k.n k.n,.slice (some ⟨k.lb,0,none⟩) k.n k.n,.int .i64 s.et,ev,.map (some k.mp)] 99 (0,0))
 met:kl w k.mb k.n s.met
 low:kl w k.lb k.n s.low
 ed:aw w k.w0.heap.size ev s.ed
 map:jJ w k.mp m F
 rel:Rel w k.w0.heap.size ev F s.bl
 aL:ai k.own k.w0 w
def Fin (k:FK) (g:Plain.Gr) (p:Plain.Pt) (w:World) (s:Plain.dW) (r:Nat):Prop:=∃ ev m F,dy k g w s ev m F/\m+s.ed.length+Plain.yq g p s+r<=100000/\s.et+Plain.yq g p s<=100000
structure FK.Ok (k:FK):Prop where
 lt:∀ j∈k.own,j<k.w0.heap.size
 ml:k.mb≠k.lb
theorem dy.eight {k:FK} (h:dy k g w s ev m F) :
  w.cell? ⟨k.pb,0,none⟩=some (.int .i64 g.n)/\w.cell? ⟨k.pb,1,none⟩=some k.gE/\w.cell? ⟨k.pb,2,none⟩=some k.dv/\w.cell? ⟨k.pb,3,none⟩=some (.slice (some ⟨k.mb,0,none⟩) k.n k.n)/\w.cell? ⟨k.pb,4,none⟩=some (.slice (some ⟨k.lb,0,none⟩) k.n k.n) /\
   w.cell? ⟨k.pb,5,none⟩=some (.int .i64 s.et)/\w.cell? ⟨k.pb,6,none⟩=some ev/\w.cell? ⟨k.pb,7,none⟩=some (.map (some k.mp)) :=
 ⟨(cell_of_row _ _ 0 _ _ _ h.row).trans rfl,(cell_of_row _ _ 1 _ _ _ h.row).trans rfl,(cell_of_row _ _ 2 _ _ _ h.row).trans rfl,(cell_of_row _ _ 3 _ _ _ h.row).trans rfl,(cell_of_row _ _ 4 _ _ _ h.row).trans rfl,(cell_of_row _ _ 5 _ _ _ h.row).trans rfl,(cell_of_row _ _ 6 _ _ _ h.row).trans rfl,(cell_of_row _ _ 7 _ _ _ h.row).trans rfl⟩
theorem dy.free {k:FK} (h:dy k g w s ev m F) (i:Nat):w.frozen? ⟨k.pb,i,none⟩=false:=bE h.row i
theorem dy.ne {k:FK} (h:dy k g w s ev m F):k.pb≠k.mb/\k.pb≠k.lb/\k.pb≠k.mp/\k.mb≠k.mp/\k.lb≠k.mp:=by
 obtain⟨c1,h1⟩:=h.met.kind;obtain⟨c2,h2⟩:=h.low.kind;refine⟨λe=>?_,λe=>?_,h.map.ne h.row,h.map.ne h1,h.map.ne h2⟩
 ·have:=h.row
  grind
 have:=h.row
 grind
theorem Rel.aL {own:List Nat} (h:Rel w B ev F bl) (hc:ai own w w') (ho:∀ j∈own,j<B):Rel w' B ev F bl :=
 ⟨λl hl=>by
  obtain⟨v,h1,h2,h3⟩:=h.1 l hl;exact⟨v,h1,h2.aL hc (λb hb q=>by
   have:=(h2.low b hb).1;have:=ho b q;omega),h3⟩,h.2⟩
section
variable {v ev' v6:Value} {l ed':List Int} {x e:Int} {m' b:Nat}
variable {k : FK} {g : Plain.Gr} {w w' : World} {s : Plain.dW} {ev : Value} {m : Nat} {F : Int -> Option Value}
theorem dy.fresh (h:dy k g w s ev m F) (hc:ai [] w w'):dy k g w' s ev m F :=
 ⟨hc.heap h.row (by simp),h.met.aL hc (by simp),h.low.aL hc (by simp),h.ed.aL hc (by simp),h.map.aL hc (by simp),h.rel.aL hc (by simp),h.aL.t hc⟩
theorem FK.Ok.out (hk:k.Ok) (h:aw w k.w0.heap.size v l):∀ b∈v.ownBlock.toList,∀ own:List Nat,(∀ j∈own,j∈k.own)->b ∉ own:=λb hb own ho q=>by
 have:=(h.low b hb).1;have:=hk.lt b (ho b q);omega
theorem dy.ag (hk:k.Ok) (h:dy k g w s ev m F) (hr:aw w k.w0.heap.size ev' ed') (ho:∀ l∈s.bl,∀ v,F (l.getD 0 0)=some v->∀ b,v.ownBlock=some b->ev'.ownBlock≠some b) :
  dy k g (w.setCell ⟨k.pb,6,none⟩ ev') { s with ed:=ed' } ev' m F:=by
 have hn:=h.ne;have hc:ai [k.pb] w (w.setCell ⟨k.pb,6,none⟩ ev'):=(ai.refl [k.pb] w).setCell (Qb (by simp)) _;have hs:∀ j∈[k.pb],j∈k.own:=by simp[FK.own]
 refine⟨by simpa using heap_setCell_same h.row 6 ev',h.met.aL hc (by grind),h.low.aL hc (by grind),hr.aL hc (λb hb=>hk.out hr b hb _ hs),h.map.aL hc (by grind),?_,h.aL.trans hc (λj hj=>Qb (hs j hj))⟩;have:=h.rel.aL hc (λj hj=>hk.lt j (hs j hj));refine⟨λl hl=>?_,this.2⟩;obtain⟨v,h1,h2,-⟩:=this.1 l hl
 grind
theorem dy.count (hk:k.Ok) (h:dy k g w s ev m F) (x:Int):dy k g (w.setCell ⟨k.pb,5,none⟩ (.int .i64 x)) { s with et:=x } ev m F:=by
 have hn:=h.ne;have hc:ai [k.pb] w (w.setCell ⟨k.pb,5,none⟩ (.int .i64 x)):=(ai.refl [k.pb] w).setCell (Qb (by simp)) _;have hs:∀ j∈[k.pb],j∈k.own:=by simp[FK.own]
 exact⟨by simpa using heap_setCell_same h.row 5 (.int .i64 x),h.met.aL hc (by grind),h.low.aL hc (by grind),h.ed.aL hc (λb hb=>hk.out h.ed b hb _ hs),h.map.aL hc (by grind),h.rel.aL hc (λj hj=>hk.lt j (hs j hj)),h.aL.trans hc (λj hj=>Qb (hs j hj))⟩
theorem dy.ZN (hk:k.Ok) (h:dy k g w s ev m F) {v:Nat} (hv:v<k.n) (hx:bF x):dy k g (w.setCell ⟨k.mb,v,none⟩ (.int .i64 x)) { s with met:=Plain.qZ s.met v x } ev m F:=by
 have hn:=h.ne;have hc:ai [k.mb] w (w.setCell ⟨k.mb,v,none⟩ (.int .i64 x)):=(ai.refl [k.mb] w).setCell (Qb (by simp)) _;have hs:∀ j∈[k.mb],j∈k.own:=by simp[FK.own]
 exact⟨hc.heap h.row (by grind),h.met.set hv hx,h.low.aL hc (by simpa using λe=>hk.ml e.symm),h.ed.aL hc (λb hb=>hk.out h.ed b hb _ hs),h.map.aL hc (by grind),h.rel.aL hc (λj hj=>hk.lt j (hs j hj)),h.aL.trans hc (λj hj=>Qb (hs j hj))⟩
theorem dy.KH (hk:k.Ok) (h:dy k g w s ev m F) {v:Nat} (hv:v<k.n) (hx:bF x):dy k g (w.setCell ⟨k.lb,v,none⟩ (.int .i64 x)) { s with low:=Plain.qZ s.low v x } ev m F:=by
 have hn:=h.ne;have hc:ai [k.lb] w (w.setCell ⟨k.lb,v,none⟩ (.int .i64 x)):=(ai.refl [k.lb] w).setCell (Qb (by simp)) _;have hs:∀ j∈[k.lb],j∈k.own:=by simp[FK.own]
 exact⟨hc.heap h.row (by grind),h.met.aL hc (by simpa using hk.ml),h.low.set hv hx,h.ed.aL hc (λb hb=>hk.out h.ed b hb _ hs),h.map.aL hc (by grind),h.rel.aL hc (λj hj=>hk.lt j (hs j hj)),h.aL.trans hc (λj hj=>Qb (hs j hj))⟩
theorem dy.push (hk:k.Ok) (h:dy k g w s ev m F) {w6:World} (hr:aw w6 k.w0.heap.size v6 (s.ed++[e])) (hc:ai (aC ev) w w6) (ho:∀ b∈aC v6,b∈aC ev\/w.heap.size<=b) :
  dy k g (w6.setCell ⟨k.pb,6,none⟩ v6) (s.push e) v6 m F:=by
 rw[h.ed.aC] at hc ho;rw[hr.aC] at ho;have hn:=h.ne;have hx:∀ j∈k.own,j ∉ ev.ownBlock.toList:=λj hj q=>by
  have:=(h.ed.low j q).1;have:=hk.lt j hj;omega
 have bI:ai [k.pb] w6 (w6.setCell ⟨k.pb,6,none⟩ v6):=(ai.refl [k.pb] w6).setCell (Qb (by simp)) _;have hs:∀ j∈[k.pb],j∈k.own:=by simp[FK.own]
 have hy:∀ {v:Value} {l:List Int},aw w6 k.w0.heap.size v l->∀ b∈v.ownBlock.toList,b ∉ [k.pb]:=λhv b hb q=>by
  have:=(hv.low b hb).1;have:=hk.lt _ (hs b q);omega
 refine⟨by simpa[Plain.dW.push] using heap_setCell_same (hc.heap h.row (hx _ (by grind))) 6 v6,(h.met.aL hc (hx _ (by simp[FK.own]))).aL bI (by grind),(h.low.aL hc (hx _ (by simp[FK.own]))).aL bI (by grind),hr.aL bI (hy hr),(h.map.aL hc (hx _ (by simp[FK.own]))).aL bI (by grind),⟨λl hl=>?_,h.rel.2⟩,(h.aL.trans hc (λj hj=>Ql (h.ed.low j hj).1)).trans bI (λj hj=>Qb (hs j hj))⟩;obtain⟨v,h1,h2,h3⟩:=h.rel.1 l hl;have h4:=h2.aL hc (λb hb q=>h3 b (by grind) (by grind));refine⟨v,h1,h4.aL bI (hy h4),λb hb q=>?_⟩;rcases ho b (by simp[q]) with r | r
 ·exact h3 b hb (by simpa using r)
 have:=(h2.low b (by simp[hb])).2;omega
theorem dy.put (hk:k.Ok) (h:dy k g w s ev m F) (hv:aw w k.w0.heap.size v l) (ho:∀ b,v.ownBlock=some b->ev.ownBlock≠some b) (hc:ai [k.mp] w w') (hm:jJ w' k.mp m' (λy=>if y=l.getD 0 0 then some v else F y)) :
  dy k g w' { s with bl:=mq l s.bl } ev m' (λy=>if y=l.getD 0 0 then some v else F y):=by
 have hn:=h.ne;have hs:∀ j∈[k.mp],j∈k.own:=by simp[FK.own]
 exact⟨hc.heap h.row (by grind),h.met.aL hc (by grind),h.low.aL hc (by grind),h.ed.aL hc (λb hb=>hk.out h.ed b hb _ hs),hm,(h.rel.aL hc (λj hj=>hk.lt j (hs j hj))).put (hv.aL hc (λb hb=>hk.out hv b hb _ hs)) ho,h.aL.trans hc (λj hj=>Qb (hs j hj))⟩
theorem dy.other (h:dy k g w s ev m F) (hb:k.w0.heap.size<=b) (hk:k.Ok) (qB:ev.ownBlock≠some b) (hr:∀ l∈s.bl,∀ v,F (l.getD 0 0)=some v->v.ownBlock≠some b) (hc:ai [b] w w'):dy k g w' s ev m F:=by
 have hx:∀ j∈k.own,j ∉ [b]:=λj hj q=>by
  have:=hk.lt j hj
  grind
 have hm:∀ j∈k.own,j≠b:=λj hj q=>hx j hj (by simp[q]);refine⟨hc.heap h.row (hx _ (by simp[FK.own])),h.met.aL hc (hx _ (by simp[FK.own])),h.low.aL hc (hx _ (by simp[FK.own])),h.ed.aL hc (λj hj q=>qB ?_),h.map.aL hc (hx _ (by simp[FK.own])),⟨λl hl=>?_,h.rel.2⟩,h.aL.trans hc (λj hj=>Ql (by grind))⟩
 ·simp at q hj
  rw[<-q];exact hj
 obtain⟨v,h1,h2,h3⟩:=h.rel.1 l hl;refine⟨v,h1,h2.aL hc (λj hj q=>hr l hl v h1 ?_),h3⟩;simp at q hj;rw[<-q];exact hj
end
end Go.Proofs.YtoiflofhcmjpoaaGreat
-- READS ONLY
namespace Go.Proofs.YtoiflofhcmjpoaaGreat
open Plain
open Go.RowKit Go.Maps
theorem NM {o:Oper} {a:Act} {Q:Exit->Act->World->Prop} {K:Act->World->Prop} {w:World} (m x u:Operand) (sH:o.op=Op.mapUpdate 97 m x u) {b n:Nat} {F:Int->Option Value} (h:jJ w b n F) (hn:n<maxLen) (hm:a.eval m=.map (some b)) {k:Int} (hk:bF k) (hx:a.eval x=.int .i64 k) {v:Value} (hu:a.eval u=v) (hv:yW v)
  (hK:∀ w2,jJ w2 b (n+1) (λy=>if y=k then some v else F y)->ai [b] w w2->K (a.put o.dst undef) w2):Oper.wp Tryz.prog o a w K Q:=by
 obtain⟨w2,ke,r1,r2⟩:=h.CJ hn hk hv;unfold Oper.wp;simp[execOp,sH,hm,hx,hu,ke,Result.andThen];exact hK _ r1 r2
theorem Oa (k:FK) (g:Plain.Gr) (p:Plain.Pt) (hk:k.Ok) (s:Plain.dW) (e:Nat) (r:Nat) (w:World) (he:(e:Int)∈s.ed) (h:Fin k g p w s r) :
  Calls Tryz.prog 172 #[.pointer (some ⟨k.pb,0,none⟩),.int .i64 e] w λx w'=>x=.returned (.tuple #[])/\Fin k g p w' (s.take e) r:=by
 obtain⟨ev,m,F,hf,rX,mD⟩:=h;have hlen:s.ed.length<=100000:=by omega
 have HF:=lh hf;obtain⟨eo,ec,rfl⟩:=aw.shape hf.ed;have Jw:0<s.ed.length:=Qm he;obtain⟨eb,rfl,aS⟩:=aw.some hf.ed Jw;have oe:=lh aS;have oK:s.ed.length<=ec/\ec<=9223372036854775807:=by
  rcases hf.ed.1.2 with ⟨q,-⟩ | ⟨g',cap,cur,q,-,-,hn,hmx,-⟩
  ·cases q
  simp only[Qu.injEq] at q;obtain⟨-,-,rfl⟩:=q;exact⟨hn,by unfold maxLen at hmx;omega⟩
 obtain⟨i,hi⟩:∃ i,s.ed.idxOf (e:Int)=i:=⟨_,rfl⟩;have lK:i<s.ed.length:=by rw[<-hi];exact List.idxOf_lt_length_of_mem he
 have xo:=Lib.idxOf_hit s.ed s.ed.length i e lK (Qk _) (by
  subst hi;simp[List.getD,lK,List.getElem_idxOf]) (λj hj q=>by
  have pr:j<s.ed.length:=by omega
  have h2:s.ed[j]=(e:Int):=by simpa[List.getD,pr] using q
  have h3:=List.not_of_lt_findIdx (p:=λx=>x==(e:Int)) (xs:=s.ed) (i:=j) (by show j<s.ed.idxOf (e:Int);rw[hi];exact hj);simp[h2] at h3)
 have HIX:=lh xo;have HI:=lh hi;obtain⟨-,-,-,-,-,-,c6,c7⟩:=hf.eight;have f6:=hf.free 6;obtain⟨L,hL⟩:∃ L,s.ed.length=L:=⟨_,rfl⟩;have HL:=lh hL;rw[hL] at oK lK HIX c6 hlen oe;have LB:=lh (show ∀ j,j<(s.ed.drop i).length->w.cell? ⟨eb,i+j,none⟩=some (.int .i64 ((s.ed.drop i).getD j 0)) from λj hj=>by
  grind)
 clear hf aS xo hi hL Jw he;go_enter Tryz.func172,Tryz.ntmps172;go_wp2_with fail;refine (Tryz.slices_Index_int eb 0 L ec s.ed (e:Int) w (by rw[HL.out];exact Qk _) (by omega) (λj hj=>by rw[HL.out] at hj;rw[Nat.zero_add];exact oe.out j hj)).mono ?_;rintro x w' ⟨rfl,rfl⟩;rw[HIX.out];go_wp2_with fail;refine (Tryz.slices_Clone_int eb i (L - i) (ec - i) (s.ed.drop i) _ (by rw[Qg,HL.out];exact Qk _) (by omega) LB.out).mono ?_;rintro x wa ⟨vc,rfl,lu,-,gZ⟩;rw[show ((s.ed.drop i).take (L - i)).map (Value.int .i64)=ints (s.ed.drop i) by rw[List.take_of_length_le (by rw[Qg,HL.out];exact Qk _)];rfl] at lu;have qJ:=ai.tE gZ (Qk _);obtain⟨cb,agZ,rfl⟩:=dj lu (by omega);have nm:=lh (show w'.heap.size<=cb from (lu.lt cb rfl).1);have rZ:=lh (HF.out.fresh qJ);have E6:(s.ed.drop i).length=L - i:=by rw[Qg,HL.out]
 have hra:aw wa w'.heap.size (.slice (some ⟨cb,0,none⟩) (L - i) agZ) (s.ed.drop i):=⟨by grind,λx hx=>HF.out.ed.2.1 x (List.mem_of_mem_drop hx),by grind⟩;have Il:=lh hra;have qk:=lh (show k.w0.heap.size<=w'.heap.size from HF.out.aL.size);have En:=lh (show eb<w'.heap.size from (HF.out.ed.low eb (by simp[Qc])).2);have tJ:=lh (show ∀ l∈s.bl,∀ v,F (l.getD 0 0)=some v->∀ b,v.ownBlock=some b->b<w'.heap.size/\b≠eb from λl hl v hv b hb=>by
  obtain⟨u,h1,h2,h3⟩:=HF.out.rel.1 l hl;rw[hv] at h1;obtain rfl:v=u:=by simpa using h1
  exact⟨(h2.low b (by simp[hb])).2,λq=>h3 b hb (by rw[q];rfl)⟩)
 have d6:=qJ.c c6;have d7:=qJ.c c7;have g6:=qJ.frozen c6 f6 (by simp);have Zm:=lh (rZ.out.ag hk (ev':=.slice (some ⟨eb,0,none⟩) i ec) (ed':=s.ed.take i) ((HL.out ▸ rZ.out.ed:aw wa k.w0.heap.size (.slice (some ⟨eb,0,none⟩) L ec) s.ed).cut (by grind)) (λl hl v hv b hb q=>(tJ.out l hl v hv b hb).2 (by simpa[Qc] using q.symm)));clear lu gZ qJ hra E6 c6 c7 f6;go_wp2_with fail;have Mm:ai [k.pb] wa (wa.setCell ⟨k.pb,6,none⟩ (.slice (some ⟨eb,0,none⟩) i ec)):=(ai.refl [k.pb] wa).setCell (Qb (by simp)) _;have tO:k.pb<k.w0.heap.size:=hk.lt _ (by simp[FK.own]);have yC:=lh ((Il.out.aL Mm (by
  intro b hb q;have h1:b=cb:=by simpa[Qc] using hb
  have h2:b=k.pb:=by grind
  have h3:=nm.out;have h4:=qk.out;omega)).base qk.out)
 clear Mm d6 d7 g6 Il LB rZ oe;generalize wa.setCell ⟨k.pb,6,none⟩ (.slice (some ⟨eb,0,none⟩) i ec)=wb at *;obtain⟨Q,hQ⟩:∃ Q,s.ed.drop i=Q:=⟨_,rfl⟩;have Rk:Q.length=L - i:=by rw[<-hQ,Qg,HL.out]
 rw[hQ] at yC;refine (qx _ Q _ wb (by omega) yC.out).mono ?_;rintro x wc ⟨rfl,xK,xQ⟩;have AW:(Cf Q).length=L - i:=by rw[(eR Q).length_eq,Rk]
 have VY:aw wc k.w0.heap.size (.slice (some ⟨cb,0,none⟩) (L - i) agZ) (Cf Q):=xK;have HRC:=lh VY;have nr:eb≠cb:=by have:=nm.out;have:=En.out;omega
 have Fu:=lh (Zm.out.other (b:=cb) (by have:=nm.out;have:=qk.out;omega) hk (by simpa[Qc] using nr) (λl hl v hv q=>by
  have h1:=(tJ.out l hl v hv cb q).1;have h2:=nm.out;omega) (by simpa[Qc] using xQ))
 obtain⟨-,-,-,-,-,-,-,k7⟩:=Fu.out.eight;obtain⟨g',e1,fs⟩:=aw.some VY (by omega);cases e1;have k0:=fs 0 (by omega);obtain⟨z,hz⟩:∃ z,(Cf Q).getD 0 0=z:=⟨_,rfl⟩;have HZ:=lh hz;have IZ:bF z:=hz ▸ VY.2.1 _ (aQ (by omega));rw[hz] at k0;have hn0:0<L - i:=by omega
 generalize L - i=M at *;have J8:(0:Int)<(M:Int):=by omega
 have HQ:=lh hQ;clear hQ Rk xK VY xQ fs hz AW tO nr Zm yC;go_wp2_with fail;have aG:ai [] wc wc.drew:=(ai.refl [] wc).drew;refine al (ai [] wc) [0,1,2,3,4,5,6,7] (Way.line [0,1,2,3,4,5,6,7,8] .done) (by kernel_rfl) (by kernel_rfl) ?_;simp only[Way.line]
 repeat (refine aj (v:=?_) rfl (by rfl) (by rfl) (λ_ _ _ h=>h) aG (λw' aB=>?_) ?_;rotate_left;(focus (have fE:=aB.c k7;have fV:=aB.c k0;clear aB;go_simp;try with_reducible rfl));simp only[Act.put,Z1,Z2,Z3,Z4,Z5,Z6])
 refine aq rfl (by rfl) (by rfl) (λK hK=>?_);refine NM _ _ _ rfl ((Fu.out.fresh aG).map) (by unfold maxLen;omega) rfl IZ rfl rfl (yW.some _ _ _ _) ?_;intro wd hmd XJ;refine hK.out _ _ (λh=>absurd h (Bool.eq_false_iff.1 (by kernel_rfl))) ?_;clear hK K;try simp only[Act.put,List.getElem_toArray,List.getElem_cons_zero,List.getElem_cons_succ]
 refine ar ?_;have HFD:=lh ((Fu.out.fresh aG).put hk ((HRC.out.aL aG (by simp))) (λb hb q=>by
  have h1:b=cb:=by simpa[Qc] using hb.symm
  have h2:b=eb:=by simpa[Qc] using q.symm
  have:=nm.out;have:=En.out;omega) XJ (by rw[HZ.out];exact hmd))
 refine bodyPost_end (v:=.tuple #[]) (by simp[results,Tryz.results172,go_sem]) rfl ?_;have e:s.take (e:Int)=⟨s.met,s.low,s.et,s.ed.take i,mq (Cf Q) s.bl⟩:=by
  unfold Plain.dW.take;rw[HI.out,HQ.out]
 rw[e];exact⟨rfl,_,m+1,_,HFD.out,by
  show m+1+(s.ed.take i).length+Plain.yq g p s+r<=100000;rw[Qq,HL.out,Qr (by omega)];have:=HL.out;omega,mD⟩
end Go.Proofs.YtoiflofhcmjpoaaGreat
namespace Go.Proofs.YtoiflofhcmjpoaaGreat.Plain
variable {s:dW} {A pre:List Int} {v via d:Int} {n:Nat}
variable {g : Gr} {p : Pt}
theorem cF.less {t:dW} (hE:xD g p s A v via) (hn:C' p s<=n+1) (h:cF g p s t A v via pre):C' p (t.push d)<=n:=by
 have:C' p (t.push d)<C' p s:=by
  refine gQ (a:=v) (λx _ hx=>?_) hE.vV ?_ (decide_eq_true hE.vn)
  ·have hx:t.met x=0:=of_decide_eq_true hx
   exact decide_eq_true (Qa λq=>h.mono q hx)
  exact decide_eq_false (h.sN hE).2
 omega
theorem cF.step (hp:aD g p) {t:dW} (hE:xD g p s A v via) (hn:C' p s<=n+1) (h:cF g p s t A v via pre) (uN:d∈aE g p v) (Ct:d ∉ pre):cF g p s (fS (visit g p n) g v via t d) A v via (pre++[d]):=by
 obtain⟨hd,hv⟩:=aX.1 uN;have uA:=h.sN hE;unfold fS;by_cases c1:g.head d=v
 ·rw[if_pos c1];exact h.loop hp hE hd hv c1
 rw[if_neg c1];by_cases c2:d / 2=via
 ·rw[if_pos c2]
  have hA:=hE.tx hp hd hv c2;exact h.same (h.mono (hE.cd.act _ hA)) (λ_ q=>absurd c2 q) λq=>absurd c2 q
 rw[if_neg c2];by_cases c3:t.met (g.head d)=0
 ·rw[if_pos c3]
  refine h.child hp hE hd hv Ct c2 c3 (sO hp n _ _ _ _ (h.ent hp hE hd hv c3) ?_);exact h.less hE hn
 rw[if_neg c3];by_cases c4:t.met (g.head d)<t.met v
 ·rw[if_pos c4];exact h.up hp hE hd hv Ct c1 c2 c3 c4
 rw[if_neg c4];have Bg:s.met (g.head d)=0:=Qa λq=>by
  have h1:=(hE.cd.num (g.head d)).2;rw[(h.old _ q).1,h.me] at c4;omega
 refine h.same c3 (λq=>absurd Bg (hE.cd.act _ q)) λq=>⟨q,aH d,bD hd,bJ d,by rw[az];exact⟨Bg,c3⟩,Qb (by grind [az])⟩
theorem Lt {v:Int} {f f':Int->Bool} {h:Int->Nat} (hf:f v=true) (xX:f' v=false) (heq:∀ x,x≠v->f x=f' x):∀ {l:List Int},l.Nodup->v∈l->((l.filter f).map h).sum=h v+((l.filter f').map h).sum
 | [],_,hv=>by simp at hv
 | x :: l,hn,hv=>by
  by_cases e:x=v
  ·subst e
   have hx:x ∉ l:=(Qs.1 hn).1;have:l.filter f=l.filter f':=List.filter_congr λy hy=>heq y λq=>hx (q ▸ hy);rw[Qe hf,Qf (by simp[xX]),this];simp
  have ih:=Lt (h:=h) hf xX heq (l:=l) (Qs.1 hn).2 ((List.mem_cons.1 hv).resolve_left λq=>e q.symm);have e2:=heq x e;cases q:f' x with
  | true =>
   rw[q] at e2;rw[Qe e2,Qe q];simp only[List.map_cons,List.sum_cons];omega
  | false =>
   rw[q] at e2;rw[Qf (by simp[e2]),Qf (by simp[q])];exact ih
theorem NY (hp:aD g p) (hv:v∈p.v) (hm:s.met v=0) (hc:0<=s.et):yq g p s=(aE g p v).length+1+yq g p (s.enter v):=by
 unfold yq;refine Lt (v:=v) (decide_eq_true hm) ?_ (λx hx=>?_) hp.vn hv
 ·refine decide_eq_false ?_
  show qZ s.met v (s.et+1) v≠0
  grind [rV]
 show decide (s.met x=0)=decide (qZ s.met v (s.et+1) x=0);rw[pJ hx]
