/- As XCalm, with marked makers whose blocks are told apart. No program here. Printed by calm2_gen.py. -/
import Derived.Test.YtoiflofhcmjpoaaGreatF9VisW
set_option maxRecDepth 100000
set_option maxHeartbeats 4000000
open List renaming getD_cons_zero→Qa,getD_cons_succ→Qb,cons_append→Qd,nil_append→Qf,replicate→Qh,mem_singleton→Qk,range→Ql,setIfInBounds_toArray→Qn,length_replicate→Qr,mem_cons→Qs,getElem?_range→Qu,set_cons_zero→Qw,set_cons_succ→Qx,getElem?_map→Qy,not_mem_nil→QB,getElem_cons_zero→QC,getElem_cons_succ→QD,length_filter_le→QF,getElem_toArray→QH,getD→QI,all_eq_true→QJ,take_length→QK,map_const'→QL,mem_range→QM
open Go.Value renaming slice→Qc,ownBlock→Qp
open Nat renaming le_trans→Qe,lt_of_lt_of_le→Qj,le_of_lt→Qv,le_succ_of_le→Qz,zero_le→QG,lt_or_ge→QO,le_refl→QP
open Array renaming getElem?_eq_getElem→Qg,getElem?_eq_some_iff→Qm,replicate→QE
open Go.World renaming block_lt_of_cell?→Qi
open Go.Act renaming put→Qo
open Bool renaming eq_false_iff→Qq
open Option renaming some→Qt
open Or renaming inl→QA,inr→QN
namespace Go.Proofs.YtoiflofhcmjpoaaGreat
open Plain
open Go
section
variable {a0 a:Act} {id i:Nat} {rest:List (Oper × List Nat)} {L:List (Value->World->Prop)} {o:Oper} {d:List Nat}
variable {P : Program} {ops : Array Oper} {Q : Exit -> Act -> World -> Prop} {md : Region.Mode} {w0 : World} {fr : (Nat -> Value) -> Act} {z : Nat} {fin M : List Nat}
def Vp (v:Value) (w w':World):Prop:=∀ b,v.ownBlock=some b->w.heap.size<=b/\b<w'.heap.size
def mj (d M:List Nat) (aO:Nat->Value):Prop:=∀ i∈M,∀ j∈M,i∈d->j∈d->i≠j->∀ b,(aO i).ownBlock=some b->(aO j).ownBlock≠some b
def rO (P:Program) (ops:Array Oper) (Q:Exit->Act->World->Prop) (w0:World) (fr:(Nat->Value)->Act) (z:Nat) (fin:List Nat) (M:List Nat) (L:List (Value->World->Prop)):Nat->List (Oper × List Nat)->Prop
 | _,[]=>∀ aO w,ai [] w0 w->gT L aO w fin->mj fin M aO->wpOp P ops Q z (λa' w'=>Q .normal a' w') (fr aO) w
 | i,(o,d) :: r=>∃ p,(Calm p/\∀ aO w,ai [] w0 w->gT L aO w d->mj d M aO->wpOp P ops Q i (λa' w'=>∃ v,a'=(fr aO).put o.dst v/\p v w'/\ai [] w w'/\(i∈M->Vp v w w')) (fr aO) w)/\rO P ops Q w0 fr z fin M (L++[p]) (i+1) r
theorem CE:∀ (todo:List (Oper × List Nat)) (i:Nat) (L:List (Value->World->Prop)),L.length=i->rO P ops Q w0 fr z fin M L i todo->(∀ k o d,todo[k]?=some (o,d)->∀ x∈d,x<i+k) ->
  ∃ L',(∀ j,j<i->L'.getD j (λ_ _=>True)=L.getD j (λ_ _=>True))/\L'.length=i+todo.length /\
   (∀ k o d,todo[k]?=some (o,d)->Calm (L'.getD (i+k) (λ_ _=>True))/\∀ aO w,ai [] w0 w->gT L' aO w d->mj d M aO->wpOp P ops Q (i+k) (λa' w'=>∃ v,a'=(fr aO).put o.dst v/\(L'.getD (i+k) (λ_ _=>True)) v w'/\ai [] w w'/\(i+k∈M->Vp v w w')) (fr aO) w) /\
   (∀ aO w,ai [] w0 w->gT L' aO w fin->mj fin M aO->wpOp P ops Q z (λa' w'=>Q .normal a' w') (fr aO) w)
 | [],i,L,hl,h,_=>⟨L,λ_ _=>rfl,by simp[hl],λk o d hk=>by simp at hk,h⟩
 | (o,d) :: r,i,L,hl,⟨p,⟨h1,h2⟩,h3⟩,hd=>by
  obtain⟨L',k1,k2,k3,k4⟩:=CE r (i+1) (L++[p]) (by simp[hl]) h3 (λk o' d' hk x hx=>by have:=hd (k+1) o' d' (by simpa using hk) x hx;omega);have hp:L'.getD i (λ_ _=>True)=p:=by
   rw[k1 i (by omega)];simp[QI,hl]
  have hold:∀ j,j<i->L'.getD j (λ_ _=>True)=L.getD j (λ_ _=>True):=λj hj=>by
   rw[k1 j (by omega)];simp[QI,List.getElem?_append_left (by omega:j<L.length)]
  refine⟨L',hold,by rw[k2];simp;omega,λk o' d' hk=>?_,k4⟩;cases k with
  | zero =>
   obtain⟨rfl,rfl⟩:o=o'/\d=d':=by simpa using hk
   rw[Nat.add_zero,hp];refine⟨h1,λaO w hG hF hA=>h2 aO w hG ?_ hA⟩;rw[<-vU (L:=L') (L':=L) (λx hx=>hold x (by have:=hd 0 o d rfl x hx;omega))];exact hF
  | succ k =>
   have:=k3 k o' d' (by simpa using hk);rw[show i+1+k=i+(k+1) by omega] at this;exact this
theorem F9 {deps:Nat->List Nat} {I:Nat->Value->World->Prop} (De:∀ aO,fr aO=kg aO 0 ops.toList a0) (fy:apart ops.toList=true)
  (XC:∀ j oj,ops[j]?=some oj->∀ e∈oj.after,Region.binds md e=true->e.on<j) (Zi:∀ j oj,ops[j]?=some oj->∀ x∈deps j,∃ e∈oj.after,Region.binds md e=true/\e.on=x)
  (JP:∀ aJ:Array Bool,aJ.size=ops.size->(∀ j oj,ops[j]?=some oj->aJ.getD j false=true->∀ e∈oj.after,Region.binds md e=true->aJ.getD e.on false=true)->z∈Region.ready md ops aJ->∀ j,j<ops.size->j≠z->aJ.getD j false=true) (hM:∀ j∈M,j<ops.size/\j≠z) (hz:z<ops.size)
  (sH:∀ i o,ops[i]?=some o->i≠z->Calm (I i)/\∀ aO w,ai [] w0 w->(∀ x∈deps i,I x (aO x) w)->mj (deps i) M aO ->
   wpOp P ops Q i (λa' w'=>∃ v,a'=(fr aO).put o.dst v/\I i v w'/\ai [] w w'/\(i∈M->Vp v w w')) (fr aO) w)
  (qQ:∀ aO w,ai [] w0 w->(∀ j,j<ops.size->j≠z->I j (aO j) w)->(∀ d,mj d M aO)->wpOp P ops Q z (λa' w'=>Q .normal a' w') (fr aO) w) :
  ∀ (fuel:Nat) (aJ:Array Bool) (aO:Nat->Value) (w:World),aJ.size=ops.size->(Ql ops.size).countP (λj=>!aJ.getD j false)<=fuel ->
   (∀ j oj,ops[j]?=some oj->aJ.getD j false=true->∀ e∈oj.after,Region.binds md e=true->aJ.getD e.on false=true) ->
   aJ.getD z false=false->(∀ j,aJ.getD j false=true->I j (aO j) w)->(∀ j∈M,aJ.getD j false=true->∀ b,(aO j).ownBlock=some b->b<w.heap.size)->(∀ i∈M,∀ j∈M,i≠j->aJ.getD i false=true->aJ.getD j false=true->∀ b,(aO i).ownBlock=some b->(aO j).ownBlock≠some b)->ai [] w0 w->wpAny P md ops Q fuel aJ (fr aO) w:=by
 have cX:∀ aJ:Array Bool,aJ.size=ops.size->Region.ready md ops aJ=[]->∀ j,j<ops.size->aJ.getD j false=true:=by
  intro aJ hs Wr j
  induction j using Nat.strongRecOn with
  | _ j ih =>
   intro hj;apply Classical.byContradiction;intro hc;have:j∈Region.ready md ops aJ:=by
    refine mem_ready.2 ⟨?_,ops[j],Qg hj,λe he hb=>ih e.on (XC j _ (Qg hj) e he hb) (by have:=XC j _ (Qg hj) e he hb;omega)⟩
    grind
   grind
 have Yk:∀ aJ:Array Bool,aJ.size=ops.size->(∀ j,j<ops.size->aJ.getD j false=true)->Region.ready md ops aJ=[]:=by
  intro aJ hs ha;refine List.eq_nil_iff_forall_not_mem.2 λj hj=>?_;obtain⟨h0,o,ho,-⟩:=mem_ready.1 hj
  grind
 intro fuel
 induction fuel with
 | zero =>
  intro aJ aO w hs hc xN TT h1 rX mD hG;exact absurd (by grind) (List.countP_eq_zero.1 (Nat.le_zero.1 hc) z (by grind))
 | succ fuel ih =>
  intro aJ aO w hs hc xN TT h1 rX mD hG;refine⟨λWr=>absurd (cX aJ hs Wr z hz) (by grind),λi hi=>?_⟩;obtain⟨h0,o,ho,ao4⟩:=mem_ready.1 hi;have aW:i<ops.size:=(Qm.1 ho).1;have hl:i<aJ.size:=by omega
  have h0':aJ.getD i false=false:=by simp[hl] at h0 ⊢;exact h0
  have br:∀ j,(aJ.setIfInBounds i true).getD j false=if j=i then true else aJ.getD j false:=λj=>by
   by_cases nC:j=i
   ·subst nC;simp[hl]
   rw[getD_set_ne false (Ne.symm nC),if_neg nC]
  by_cases hiz:i=z
  ·subst hiz
   have ha:∀ j,j<ops.size->(aJ.setIfInBounds i true).getD j false=true:=λj hj=>by
    all_goals grind
   have Wr:=Yk (aJ.setIfInBounds i true) (by grind) ha;refine wpOp_mono ?_ (qQ aO w hG (λj hj nC=>h1 j (JP aJ hs xN hi j hj nC)) (λ_ i' H8 j hj _ _ bn=>mD i' H8 j hj bn (JP aJ hs xN hi i' (hM i' H8).1 (hM i' H8).2) (JP aJ hs xN hi j (hM j hj).1 (hM j hj).2)));intro a' w' hq;cases fuel with
   | zero=>exact⟨Wr,hq⟩
   | succ fuel=>exact⟨λ_=>hq,λk hk=>by grind⟩
  refine wpOp_mono ?_ ((sH i o ho hiz).2 aO w hG (λx hx=>?_) (λi' H8 j hj hid hjd bn=>mD i' H8 j hj bn (by grind) (by grind)))
  ·rintro a' w' ⟨v,rfl,hv,hR,hN⟩
   have e:(fr aO).put o.dst v=fr (qZ aO i v):=by
    rw[De,De];have:=BY aO v ops.toList 0 i o a0 fy (by grind)
    grind
   rw[e];refine ih _ _ _ (by grind) ?_ (λj oj hj hlj e he hb=>?_) ?_ (λj hj=>?_) (λj hj hlj b hb=>?_) (λi' H8 j hj bn Vg hlj b hb q=>?_) (hG.t hR)
   ·have:=pI (λj=>!aJ.getD j false) (λj=>!(aJ.setIfInBounds i true).getD j false) i (by grind) (by grind) (λk hk=>by grind) ops.size aW
    omega
   ·rw[br] at hlj ⊢
    all_goals grind
   ·grind
   ·by_cases nC:j=i
    ·subst nC
     rw[show qZ aO j v j=v from if_pos rfl];exact hv
    rw[br,if_neg nC] at hj;rw[show qZ aO i v j=aO j from if_neg nC];have hjz:j≠z:=λq=>by rw[q,TT] at hj;cases hj
    have pr:j<aJ.size:=by
     rcases QO j aJ.size with q | q
     ·exact q
     simp[Array.getElem?_eq_none q] at hj
    obtain⟨oj,X'⟩:∃ oj,ops[j]?=some oj:=⟨_,Qg (by omega)⟩;exact (sH j oj X' hjz).1 _ _ _ hR (h1 j hj)
   ·by_cases nC:j=i
    ·subst nC
     rw[show qZ aO j v j=v from if_pos rfl] at hb;exact (hN hj b hb).2
    rw[br,if_neg nC] at hlj;rw[show qZ aO i v j=aO j from if_neg nC] at hb;exact Qj (rX j hj hlj b hb) hR.size
   rw[br] at Vg hlj;by_cases hii:i'=i
   ·subst hii
    rw[show qZ aO i' v i'=v from if_pos rfl] at hb;rw[if_neg (Ne.symm bn)] at hlj;rw[show qZ aO i' v j=aO j from if_neg (Ne.symm bn)] at q;have h1:=(hN H8 b hb).1
    grind
   rw[if_neg hii] at Vg;rw[show qZ aO i v i'=aO i' from if_neg hii] at hb;by_cases nC:j=i
   ·subst nC
    rw[show qZ aO j v j=v from if_pos rfl] at q;have h1:=(hN hj b q).1
    grind
   all_goals grind [qZ]
  all_goals grind
theorem xz {w:World} (deps:List (List Nat)) (fin:List Nat) (M:List Nat) (hMM:(M.all λj=>decide (j<ops.size - 1))=true) (hm:P.follows .mixedOrders=true)
  (hc:K9 .any ops deps fin=true) (hG:ai [] w0 w.drew)
  (h':∀ fr:(Nat->Value)->Act,(∀ aO,kg aO 0 ops.toList a=fr aO)->rO P ops Q w0 fr (ops.size - 1) fin M [] 0 (ops.toList.dropLast.zip deps)):(Code.region id ops true).wp P Q a w:=by
 obtain⟨fr,De⟩:∃ fr:(Nat->Value)->Act,∀ aO,kg aO 0 ops.toList a=fr aO:=⟨_,λ_=>rfl⟩;have h:=h' fr De;unfold K9 at hc;simp only[Bool.and_eq_true,Bool.or_eq_true,decide_eq_true_eq,beq_iff_eq,QJ,QM,List.contains_eq_mem] at hc;obtain⟨⟨⟨⟨⟨fy,hlen⟩,XC⟩,axi⟩,hz⟩,Dt⟩:=hc;have Jw:0<ops.size:=by omega
 have alO:∀ k o,ops[k]?=some o->k≠ops.size - 1->(ops.toList.dropLast.zip deps)[k]?=some (o,deps.getD k []):=λk o ho hk=>by
  grind
 have asv:∀ k o d,(ops.toList.dropLast.zip deps)[k]?=some (o,d)->ops[k]?=some o/\deps.getD k []=d/\k<ops.size - 1:=λk o d hk=>by
  all_goals grind
 have acq:∀ j oj,ops[j]?=some oj->∀ e∈oj.after,Region.binds .any e=true->e.on<j:=λj oj hj e he hb =>
  XC j (Qm.1 hj).1 e.on (kT.2 ⟨oj,hj,e,he,hb,rfl⟩)
 have Zi:∀ j oj,ops[j]?=some oj->∀ x∈(if j<ops.size - 1 then deps.getD j [] else []),∃ e∈oj.after,Region.binds .any e=true/\e.on=x:=λj oj hj x hx=>by
  all_goals grind [kT]
 obtain⟨L,-,-,hO,hE⟩:=CE _ 0 [] rfl h (λk o d hk x hx=>by
  grind)
 refine wp_region_any hm ?_;have acj:=F9 (P:=P) (Q:=Q) (md:=.any) (a0:=a) (w0:=w0) (deps:=λj=>if j<ops.size - 1 then deps.getD j [] else []) (I:=λj=>if j<ops.size - 1 then L.getD j (λ_ _=>True) else λ_ _=>True) (fr:=fr) (z:=ops.size - 1) (λaO=>(De aO).symm) fy acq Zi
  (λaJ hs xN hzr j hj hjz=>by
   obtain⟨-,o,ho,ao4⟩:=mem_ready.1 hzr
   grind [pS,kT]) (λj hj=>by have:=of_decide_eq_true (QJ.1 hMM j hj);exact⟨by omega,by omega⟩) (by omega)
  (λi o ho hi=>by
   have sS:i<ops.size:=(Qm.1 ho).1;have hi3:i<ops.size - 1:=by omega
   have:=hO i o _ (alO i o ho hi);rw[Nat.zero_add] at this;simp only[if_pos hi3];refine⟨this.1,λaO w hG hF hA=>this.2 aO w hG (Ae λx hx=>?_) hA⟩
   grind)
  (λaO w hG h1 hA=>hE aO w hG (Ae λx hx=>by
   grind) (hA _))
 have e0:a=fr (λk=>match ops.toList[k]? with | some o=>held a o | none=>undef):=by
  grind [BH]
 have gV:∀ j,(QE ops.size false).getD j false=false:=λj=>by
  rcases QO j (QE ops.size false).size with q | q
  ·simp only[Array.size_replicate] at q
   simp[q]
  all_goals grind
 have:=acj ops.size (QE ops.size false) (λk=>match ops.toList[k]? with | some o=>held a o | none=>undef) w.drew (by simp) (Qe (List.countP_le_length) (by simp))
  (λj _ _ hj=>by grind) (gV _) (λj hj=>by grind) (λj _ hj=>by grind) (λi _ j _ _ hj=>by grind) hG
 rw[<-e0] at this;exact this
theorem sW (p:Value->World->Prop) (ho:ops[i]?=some o) (hi:M.contains i=false) (hp:Calm p)
  (h:∀ aO w,ai [] w0 w->gT L aO w d->mj d M aO->Region.wanted o (yielded ops (fr aO).tmps)=true /\
   ∀ K:Act->World->Prop,Shut (∀ v w',p v w'->ai [] w w'->K ((fr aO).put o.dst v) w')->o.wp P (fr aO) w K Q)
  (hn:rO P ops Q w0 fr z fin M (L++[p]) (i+1) rest):rO P ops Q w0 fr z fin M L i ((o,d) :: rest):=by
 refine⟨p,⟨hp,λaO w hG hF hA=>?_⟩,hn⟩;obtain⟨h1,h2⟩:=h aO w hG hF hA;unfold wpOp;simp only[ho,h1,if_true];exact .inl (h2 _ (λv w' a b=>⟨v,rfl,a,b,λq=>absurd (List.contains_iff_mem.2 q) (by grind)⟩))
theorem BK (p:Value->World->Prop) (ho:ops[i]?=some o) (hp:Calm p)
  (h:∀ aO w,ai [] w0 w->gT L aO w d->mj d M aO->Region.wanted o (yielded ops (fr aO).tmps)=true /\
   ∀ K:Act->World->Prop,Shut (∀ v w',p v w'->ai [] w w'->Vp v w w'->K ((fr aO).put o.dst v) w')->o.wp P (fr aO) w K Q)
  (hn:rO P ops Q w0 fr z fin M (L++[p]) (i+1) rest):rO P ops Q w0 fr z fin M L i ((o,d) :: rest):=by
 refine⟨p,⟨hp,λaO w hG hF hA=>?_⟩,hn⟩;obtain⟨h1,h2⟩:=h aO w hG hF hA;unfold wpOp;simp only[ho,h1,if_true];exact .inl (h2 _ (λv w' a b c=>⟨v,rfl,a,b,λ_=>c⟩))
theorem iE {c:Value} (ho:ops[i]?=some o) (hi:M.contains i=false)
  (h:∀ aO w,ai [] w0 w->gT L aO w d->mj d M aO->Region.wanted o (yielded ops (fr aO).tmps)=true/\(execOp (fr aO).eval o).run P w=.ok (.value c) w)
  (hn:rO P ops Q w0 fr z fin M (L++[λv _=>v=c]) (i+1) rest):rO P ops Q w0 fr z fin M L i ((o,d) :: rest):=by
 refine⟨λv _=>v=c,⟨λ_ _ _ _ q=>q,λaO w hG hF hA=>?_⟩,hn⟩;obtain⟨h1,h2⟩:=h aO w hG hF hA;unfold wpOp;simp only[ho,h1,if_true,Oper.wp,h2,Oper.upon]
 grind [ai.refl]
theorem I6 (ho:ops[z]?=some o)
  (h:∀ aO w,ai [] w0 w->gT L aO w fin->mj fin M aO->Region.wanted o (yielded ops (fr aO).tmps)=true /\
   ∀ K:Act->World->Prop,Shut (∀ a' w',Q .normal a' w'->K a' w')->o.wp P (fr aO) w K Q):rO P ops Q w0 fr z fin M L i []:=by
 intro aO w hG hF hA;obtain⟨h1,h2⟩:=h aO w hG hF hA;unfold wpOp;simp only[ho,h1,if_true];exact .inl (h2 _ (λa' w' q=>q))
end
end Go.Proofs.YtoiflofhcmjpoaaGreat
-- READS ONLY
namespace Go.Proofs.YtoiflofhcmjpoaaGreat
open Plain
open Go.RowKit Go.Maps
variable {e:TypeId} {z v v':Value} {bytes a B n b:Nat} {w w':World} {g:Gr} {xs:List Value} {l:List Int} {x d:Int} {p:Pt}
theorem tY {t:TypeId} {size:Nat} (E:qg t e z size bytes) {o:Oper} {a:Act} {Q:Exit->Act->World->Prop} {K:Act->World->Prop} (l c:Operand) (sH:o.op=Op.makeSlice t l c) (hl:a.eval l=.int .i64 n) (hc:a.eval c=.int .i64 n) (hB:B<=w.heap.size) (hn:n<68719476736)
  (hK:∀ w',w'.ownsRow B e size (.slice (some ⟨w.heap.size,0,none⟩) n n) n (madeCells z.cells (n*size)).toList->ai [] w w'->K (a.put o.dst (.slice (some ⟨w.heap.size,0,none⟩) n n)) w'):Oper.wp Tryz.prog o a w K Q:=by
 obtain⟨i0,hi,Er,kA,uC⟩:=info_parts E.hi;have hb:=E.hb;obtain⟨w',ke,r1,r2⟩:=run_make_full (P:=Tryz.prog) w B t e i0 z size E.ht hi Er kA .i64 .i64 n (by
  rw[uC];exact Qe (Nat.mul_le_mul_right _ hb) (by omega)) (by unfold maxLen;omega) hB
 unfold Oper.wp;simp[execOp,sH,hl,hc,ke,Result.andThen];exact hK w' r1 ((ai.refl _ _).grown r2 (by simp))
theorem qi {sz g cap q:Nat} {cs:List Cell} (h:bN w B e sz (.slice (some ⟨g,0,none⟩) n cap) n xs cs) (he:e≠3) (hB:B<=w.heap.size) (hq:q<xs.length) (hc:cs[q]?=some (.row l)) (hx:bF x) (hn:l.length+1<4294967296) :
  ∃ va vc zz yR w2,w.cell? ⟨g,q,none⟩=some (.slice va l.length vc)/\(Builtin.append_ #[25,25] 25 #[.slice va l.length vc,.slice (some ⟨w.heap.size,0,none⟩) 1 1]).run Tryz.prog (w.alloc (.cells #[.int .i64 x] 3))=.ok (.slice zz (l.length+1) yR) w2 /\
   w2.cell? ⟨g,q,none⟩=some (.slice va l.length vc)/\w2.frozen? ⟨g,q,none⟩=false /\
   bN (w2.setCell ⟨g,q,none⟩ (.slice zz (l.length+1) yR)) B e sz (.slice (some ⟨g,0,none⟩) n cap) n (xs.set q (.slice zz (l.length+1) yR)) (cs.set q (.row (l++[x]))) /\
   (∀ b∈aC (.slice zz (l.length+1) yR),b∈aC (.slice va l.length vc)\/w.heap.size<=b)/\xs.getD q undef=.slice va l.length vc/\ai (g :: aC (.slice va l.length vc)) w (w2.setCell ⟨g,q,none⟩ (.slice zz (l.length+1) yR))/\ai (aC (.slice va l.length vc)) w w2/\g ∉ aC (.slice va l.length vc)/\∀ (b:Nat) (cs:Array Value) (t:TypeId) (r:Nat × Nat),w.heap[b]?=some (.cells cs t r)->t≠3->b ∉ aC (.slice va l.length vc):=by
 have aT:=h.row hc;obtain⟨va,vc,ev⟩:=aT.shape;have aS:=h.cell hq;rw[ev] at aS aT;have ca:ai [] w (w.alloc (.cells #[.int .i64 x] 3)):=(ai.refl _ _).alloc _;obtain⟨v',w2,hr,r1,r2,r3⟩:=nM (aT.aL ca (by simp)) (dI w hx) (Qe hB ca.size) (by simp;omega) 25;obtain⟨zz,yR,ev'⟩:=r1.shape;rw[show (l++[x]).length=l.length+1 by simp] at ev';subst ev';have bI:ai (aC (.slice va l.length vc)) w w2:=(ca.mono (by simp)).trans r2 (λj hj=>QA hj);have hfg:g ∉ aC (.slice va l.length vc):=λem=>by
  obtain⟨JD,r,hh⟩:=bu aT g em;rcases h.out.2 with ⟨q,_⟩ | ⟨g',c',cur,q,_,hg,_⟩
  ·cases q
  simp only[Qc.injEq,Qt.injEq,Addr.mk.injEq] at q;obtain⟨⟨rfl,-⟩,-⟩:=q;rw[hg] at hh;simp at hh;exact he hh.2.1
 have zL:=bI.cell aS hfg;have oN:=h.put (v:=.slice zz (l.length+1) yR) (m:=l++[x]) he hq hc r1 (by rw[ev];exact bI) (λb hb=>by
  rw[ev];rcases r3 b hb with t | t
  ·exact QA t
  exact QN (Qe ca.size t))
 have hgh:∃ cur,w.heap[g]?=some (.cells cur e (0,0)):=by
  rcases h.out.2 with ⟨q,_⟩ | ⟨g',c',cur,q,hb,hg,_⟩
  ·cases q
  simp only[Qc.injEq,Qt.injEq,Addr.mk.injEq] at q;obtain⟨⟨rfl,-⟩,-⟩:=q;exact⟨_,hg⟩
 obtain⟨cur,hg⟩:=hgh;have Lg:=bI.heap hg hfg;have br:ai [g] w2 (w2.setCell ⟨g,q,none⟩ (.slice zz (l.length+1) yR)):=(ai.refl _ _).setCell (QA (by simp)) _;exact⟨va,vc,zz,yR,w2,aS,hr,zL,by simp[World.frozen?,Lg],oN,λb hb=>(r3 b hb).imp id λt=>Qe ca.size t,ev,(bI.mono (λj hj=>QA (by simp[hj]))).trans br (λj hj=>QA (by simp at hj;simp[hj])),bI,hfg,λb cs t r hb ht hm=>by
  obtain⟨JD,r',hh⟩:=bu aT b hm;rw[hb] at hh;simp at hh;exact ht hh.2.1⟩
theorem afJ {o:Obj} (hc:ai [] w w') (h:w.heap[b]?=some o):w'.heap[b]?=some o:=hc.hp h
theorem uM {fb:Nat} (h:w.ownsRow B 25 1 (.slice (some ⟨fb,0,none⟩) n n) n (madeCells (Qc none 0 0).cells (n*1)).toList):bN w B 25 1 (.slice (some ⟨fb,0,none⟩) n n) n (Qh n (.slice none 0 0)) (Qh n (.row [])):=by
 have e1:(madeCells (Qc none 0 0).cells (n*1)).toList=Qh n (.slice none 0 0):=by
  show (madeCells #[Qc none 0 0] (n*1)).toList=_;rw[Nat.mul_one,toList_madeCells_one]
 rw[e1] at h;have hv:∀ k,k<n->(Qh n (Qc none 0 0)).getD k undef=.slice none 0 0:=λk hk=>by simp[QI,hk]
 refine⟨h,by simp,by simp,λk c hk=>?_,λk l hk _ _=>QA ?_⟩
 ·obtain⟨h1,h2⟩:=List.getElem?_eq_some_iff.1 hk
  rw[Qr] at h1;rw[List.getElem_replicate] at h2;rw[hv k h1,<-h2];exact JW w B
 rw[Qr] at hk;rw[hv k hk];rfl
theorem Cd {N k:Nat} (hk:k<p.ah.length) (hd:p.ah.getD k 0=d) (ha:g.tail d=a) :
  ((Ql N).map λv:Nat=>Cell.row (bQ g p v k)).set a (.row (bQ g p a k++[d]))=(Ql N).map λv:Nat=>Cell.row (bQ g p v (k+1)):=by
 refine List.ext_getElem (by simp) λi h1 h2=>?_;rw[List.getElem_set];simp only[List.getElem_map,List.getElem_range];rw[nX hk,hd,ha];by_cases e:a=i
 ·subst e
  rw[if_pos rfl,if_pos rfl]
 rw[if_neg e,if_neg (by omega)]
theorem Ln (PA:∀ k b,k<xs.length->(xs.getD k undef).ownBlock=some b->B<=b) (ha:a<xs.length) (hv:xs.getD a undef=v) (hf:∀ b∈aC v',b∈aC v\/w.heap.size<=b) (h1:aC v'=v'.ownBlock.toList) (h2:aC v=v.ownBlock.toList) (hB:B<=w.heap.size) :
  ∀ k b,k<(xs.set a v').length->((xs.set a v').getD k undef).ownBlock=some b->B<=b:=λk b hk hb=>by
 rw[List.length_set] at hk;rw[eK _ _ _ _ _ ha] at hb;by_cases e:k=a
 ·rw[if_pos e] at hb
  rcases hf b (by rw[h1,hb];simp) with q | q
  ·refine PA a b ha ?_
   rw[hv];rw[h2] at q;simpa using q
  omega
 rw[if_neg e] at hb;exact PA k b hk hb
theorem Mp (n:Nat):((Ql n).map λi:Nat=>(λ_:Int=>(0:Int)) i)=Qh n 0:=by
 rw[QL];simp
theorem Ab (f:Int->Bool):∀ D:List Int,(D.filter f).length+(D.filter λd=>!f d).length=D.length
 | []=>rfl
 | d :: D=>by
  have ih:=Ab f D;cases h:f d <;> simp[h] <;> omega
theorem ep {n:Int} (h:dG l n=true):l.length<=n.toNat:=by
 have h1:=bY (l:=l) (m:=(Ql n.toNat).map λi:Nat=>(i:Int)) (lS h) λx hx=>by
  obtain⟨i,hi,rfl⟩:=cr hx;have:=cG h hi;exact List.mem_map.2 ⟨(l.getD i 0).toNat,QM.2 (by omega),by omega⟩
 simpa using h1
theorem BQ {g:Gr} {p:Pt}:∀ {l:List Int} {D:List Int},l.Nodup->(l.map λu=>(D.filter λd=>decide (g.tail d=u)).length+1).sum<=D.length+l.length
 | [],D,_=>by simp
 | u :: l,D,hn=>by
  rw[List.nodup_cons] at hn;have h1:(l.map λv=>(D.filter λd=>decide (g.tail d=v)).length+1)=l.map λv=>((D.filter λd=>!decide (g.tail d=u)).filter λd=>decide (g.tail d=v)).length+1:=by
   refine List.map_congr_left λv hv=>?_;congr 2;rw[List.filter_filter];refine List.filter_congr λd _=>?_;by_cases e:g.tail d=v
   ·have:g.tail d≠u:=λq=>hn.1 (by rw[<-q,e];exact hv)
    have h2:v≠u:=λq=>this (e.trans q);simp[e,h2]
   simp[e]
  have h2:=BQ (g:=g) (p:=p) (l:=l) (D:=D.filter λd=>!decide (g.tail d=u)) hn.2;have h3:(D.filter λd=>decide (g.tail d=u)).length+(D.filter λd=>!decide (g.tail d=u)).length=D.length:=Ab _ D;rw[List.map_cons,List.sum_cons,h1,List.length_cons];omega
theorem Ol (h:p.err g=0):yq g p dW.zero<=10000:=by
 have hk:=Pt.ax h;obtain⟨kA,uC,hz3,-⟩:=Pt.aF h;obtain⟨hz4,hz5,hz6,-⟩:=Gr.aF kA;unfold yq aE;have e:(p.v.filter λu=>decide (dW.zero.met u=0))=p.v:=List.filter_eq_self.2 λ_ _=>rfl;rw[e];have h1:=BQ (g:=g) (p:=p) (D:=p.ah) hk.vn;have h2:=ct p;have h3:=ep uC;have h4:=ep hz3;omega
theorem NI (vg vp:Value) (g:Gr) (p:Pt) (w:World) (N:Nat) (hN:g.n=N) (dk:p.err g=0) (hg:cA w vg g) (hp:dt w vp p) :
  Calls Tryz.prog 77 #[vg,vp] w λe w'=>∃ k ev m F,e=.returned (.pointer (some ⟨k.pb,0,none⟩))/\k.n=N/\dy k g w' (findAll g p) ev m F/\m+(findAll g p).ed.length<=100000/\k.Ok/\w.heap.size<=k.w0.heap.size/\(∀ j∈k.own,w.heap.size<=j)/\ai [] w w':=by
 have oL:=lh hN;have kL:=Pt.ax dk;obtain⟨kA,uC,hz3,-⟩:=Pt.aF dk;obtain⟨hz4,hz5,hz6,-⟩:=Gr.aF kA;have hN1:N<=1024:=by omega
 have Sg:g.e.length<=1024:=by omega
 have hhe:∀ e∈p.e,e<g.e.length:=λe he=>(Pt.gS dk he).2;have uu:=lh dk;have ahE:=lh (show yq g p dW.zero<=10000 from Ol dk);clear hN kA uC hz3 hz4 hz5 hz6 dk;obtain⟨eo,cap,ao,ac,bo,bc,rfl,rfl,HG,HP,hm,uJ,oJ,pU,nG,xL,uD,aY,bm⟩:=eF hg hp;clear hg hp;obtain⟨x0,x1,y0,y1,bs⟩:=bm.out _ (ai.refl _ _);go_enter Tryz.func77,Tryz.ntmps77;go_wp2_with fail;obtain⟨w1,gu⟩:∃ w1,((w.alloc (.cells #[.int .i64 g.n,.slice eo g.e.length cap] 24)).alloc (.cells #[.slice ao p.v.length ac,.slice bo p.e.length bc] 27))=w1:=⟨_,rfl⟩;rw[gu] at aY bm ⊢;clear gu x0 x1 y0 y1 bs;obtain⟨x0,x1,y0,y1,bs⟩:=bm.out w1 (ai.refl _ _);refine xz (w0:=w1) [[],[],[1],[2],[],[4],[5],[],[7],[8],[],[0,3,6,9,10],[11]] [12] [6,9] (by kernel_rfl) (by kernel_rfl) (by kernel_rfl) (ai.refl [] w1).drew ?_
 (intro fr De;simp only[kg,Qo,Qn,Qw,Qx,Nat.reduceAdd] at De;obtain rfl:=funext (λaO=>(De aO).symm);clear De;simp only[List.dropLast,List.zip_cons_cons,List.zip_nil_right])
 refine iE (c:=.agg #[.int .i64 g.n,.slice eo g.e.length cap]) rfl (by rfl) (λaO w' hG hF hA=>⟨by rfl,by have q0:=hG.bO x0;have q1:=hG.bO x1;go_simp⟩) ?_;refine iE (c:=.pointer (some ⟨w.heap.size,0,none⟩)) rfl (by rfl) (λaO w' hG hF hA=>⟨by rfl,by go_simp⟩) ?_;refine iE (c:=.int .i64 g.n) rfl (by rfl) (λaO w' hG hF hA=>⟨by rfl,by simp only[gT,Qf,Qd,Qa,Qb,and_true] at hF;have q0:=hG.bO x0;simp only[hF];go_simp⟩) ?_;refine sW (λv w=>∃ b,v=.slice (some ⟨b,0,none⟩) N N/\w.ownsRow w1.heap.size 25 1 (.slice (some ⟨b,0,none⟩) N N) N (madeCells (Qc none 0 0).cells (N*1)).toList) rfl (by rfl) (λu w w' hc ⟨b,e,h⟩=>⟨b,e,bG h hc (by simp)⟩) (λaO w' hG hF hA=>⟨by rfl,λK hK=>by
  simp only[gT,Qf,Qd,Qa,Qb,and_true] at hF;refine tY qq _ _ rfl (B:=w1.heap.size) (n:=N) (by show aO 2=_;rw[hF,oL.out]) (by show aO 2=_;rw[hF,oL.out]) hG.size (by omega) λw2 h2 bI=>?_;exact hK.out _ _ ⟨_,rfl,h2⟩ bI⟩) ?_
 refine iE (c:=.pointer (some ⟨w.heap.size,0,none⟩)) rfl (by rfl) (λaO w' hG hF hA=>⟨by rfl,by go_simp⟩) ?_;refine iE (c:=.int .i64 g.n) rfl (by rfl) (λaO w' hG hF hA=>⟨by rfl,by simp only[gT,Qf,Qd,Qa,Qb,and_true] at hF;have q0:=hG.bO x0;simp only[hF];go_simp⟩) ?_;refine BK (λv w=>∃ b,v=.slice (some ⟨b,0,none⟩) N N/\w1.heap.size<=b/\kl w b N λ_=>0) rfl (λu w w' hc ⟨b,e,hb,h⟩=>⟨b,e,hb,h.aL hc (by simp)⟩) (λaO w' hG hF hA=>⟨by rfl,λK hK=>by
  simp only[gT,Qf,Qd,Qa,Qb,and_true] at hF;refine tY cM _ _ rfl (B:=0) (n:=N) (by show aO 5=_;rw[hF,oL.out]) (by show aO 5=_;rw[hF,oL.out]) (QG _) (by omega) λw2 h2 bI=>?_;exact hK.out _ _ ⟨_,rfl,hG.size,by unfold kl;rw[Mp];exact tL h2 (by omega)⟩ bI (λb hb=>by
   have e:w'.heap.size=b:=by simpa[Qp] using hb
   have:=jR h2 (b:=b) (by simp[Qp,e]);omega)⟩) ?_
 refine iE (c:=.pointer (some ⟨w.heap.size,0,none⟩)) rfl (by rfl) (λaO w' hG hF hA=>⟨by rfl,by go_simp⟩) ?_;refine iE (c:=.int .i64 g.n) rfl (by rfl) (λaO w' hG hF hA=>⟨by rfl,by simp only[gT,Qf,Qd,Qa,Qb,and_true] at hF;have q0:=hG.bO x0;simp only[hF];go_simp⟩) ?_;refine BK (λv w=>∃ b,v=.slice (some ⟨b,0,none⟩) N N/\w1.heap.size<=b/\kl w b N λ_=>0) rfl (λu w w' hc ⟨b,e,hb,h⟩=>⟨b,e,hb,h.aL hc (by simp)⟩) (λaO w' hG hF hA=>⟨by rfl,λK hK=>by
  simp only[gT,Qf,Qd,Qa,Qb,and_true] at hF;refine tY cM _ _ rfl (B:=0) (n:=N) (by show aO 8=_;rw[hF,oL.out]) (by show aO 8=_;rw[hF,oL.out]) (QG _) (by omega) λw2 h2 bI=>?_;exact hK.out _ _ ⟨_,rfl,hG.size,by unfold kl;rw[Mp];exact tL h2 (by omega)⟩ bI (λb hb=>by
   have e:w'.heap.size=b:=by simpa[Qp] using hb
   have:=jR h2 (b:=b) (by simp[Qp,e]);omega)⟩) ?_
 refine sW (λv w=>∃ b,v=.map (some b)/\w1.heap.size<=b/\jJ w b 0 λ_=>none) rfl (by rfl) (λu w w' hc ⟨b,e,hb,h⟩=>⟨b,e,hb,h.aL hc (by simp)⟩) (λaO w' hG hF hA=>⟨by rfl,λK hK=>by
  have ze:=@run_makeMap Tryz.prog;go_simp;exact hK.out _ _ ⟨_,rfl,hG.size,jJ.made w'⟩ ((ai.refl _ _).alloc _)⟩) ?_
 refine sW (λv w=>∃ db mb lb mp,v=.agg #[.int .i64 g.n,.slice eo g.e.length cap,.slice (some ⟨db,0,none⟩) N N,.slice (some ⟨mb,0,none⟩) N N,.slice (some ⟨lb,0,none⟩) N N,.int .i64 0,.slice none 0 0,.map (some mp)] /\
   w.ownsRow w1.heap.size 25 1 (.slice (some ⟨db,0,none⟩) N N) N (madeCells (Qc none 0 0).cells (N*1)).toList/\(w1.heap.size<=mb/\kl w mb N λ_=>0)/\(w1.heap.size<=lb/\kl w lb N λ_=>0)/\(w1.heap.size<=mp/\jJ w mp 0 λ_=>none)/\mb≠lb) rfl (by rfl)
  (λu w w' hc ⟨db,mb,lb,mp,e,h1,h2,h3,h4,h5⟩=>⟨db,mb,lb,mp,e,bG h1 hc (by simp),⟨h2.1,h2.2.aL hc (by simp)⟩,⟨h3.1,h3.2.aL hc (by simp)⟩,⟨h4.1,h4.2.aL hc (by simp)⟩,h5⟩) (λaO w' hG hF hA=>⟨by rfl,λK hK=>by
  simp only[gT,Qf,Qd,Qa,Qb,and_true] at hF;obtain⟨e0,⟨db,e3,h3⟩,⟨mb,e6,h6⟩,⟨lb,e9,h9⟩,⟨mp,e10,h10⟩⟩:=hF;have bn:mb≠lb:=λq=>hA 6 (by simp) 9 (by simp) (by simp) (by simp) (by simp) mb (by rw[e6];rfl) (by rw[e9,q];rfl);simp only[e0,e3,e6,e9,e10] at hK ⊢;go_simp;exact hK.out _ _ ⟨db,mb,lb,mp,rfl,h3,h6,h9,h10,bn⟩ (ai.refl _ _)⟩) ?_
 refine sW (λv w=>∃ pb db mb lb mp,v=.pointer (some ⟨pb,0,none⟩)/\w1.heap.size<=pb/\w.heap[pb]?=some (.cells #[.int .i64 g.n,.slice eo g.e.length cap,.slice (some ⟨db,0,none⟩) N N,.slice (some ⟨mb,0,none⟩) N N,.slice (some ⟨lb,0,none⟩) N N,.int .i64 0,.slice none 0 0,.map (some mp)] 99 (0,0)) /\
   w.ownsRow w1.heap.size 25 1 (.slice (some ⟨db,0,none⟩) N N) N (madeCells (Qc none 0 0).cells (N*1)).toList/\(w1.heap.size<=mb/\kl w mb N λ_=>0)/\(w1.heap.size<=lb/\kl w lb N λ_=>0)/\(w1.heap.size<=mp/\jJ w mp 0 λ_=>none)/\mb≠lb) rfl (by rfl)
  (λu w w' hc ⟨pb,db,mb,lb,mp,e,hb,hr,h1,h2,h3,h4,h5⟩=>⟨pb,db,mb,lb,mp,e,hb,afJ hc hr,bG h1 hc (by simp),⟨h2.1,h2.2.aL hc (by simp)⟩,⟨h3.1,h3.2.aL hc (by simp)⟩,⟨h4.1,h4.2.aL hc (by simp)⟩,h5⟩) (λaO w' hG hF hA=>⟨by rfl,λK hK=>by
  simp only[gT,Qf,Qd,Qa,Qb,and_true] at hF;obtain⟨db,mb,lb,mp,e,h1,h2,h3,h4,h5⟩:=hF;simp only[e] at hK ⊢;go_simp;have hc:=(ai.refl [] w').alloc (.cells #[.int .i64 g.n,.slice eo g.e.length cap,.slice (some ⟨db,0,none⟩) N N,.slice (some ⟨mb,0,none⟩) N N,.slice (some ⟨lb,0,none⟩) N N,.int .i64 0,.slice none 0 0,.map (some mp)] 99);exact hK.out _ _ ⟨_,db,mb,lb,mp,rfl,hG.size,Lu _ _,bG h1 hc (by simp),⟨h2.1,h2.2.aL hc (by simp)⟩,⟨h3.1,h3.2.aL hc (by simp)⟩,⟨h4.1,h4.2.aL hc (by simp)⟩,h5⟩ hc⟩) ?_
 refine I6 rfl (λaO w2 hG hF hA=>⟨by rfl,λK hK=>?_⟩);simp only[gT,Qf,Qd,Qa,Qb,and_true] at hF;obtain⟨pb,db,mb,lb,mp,e,tO,aT,lU,⟨EN,oW⟩,⟨Yi,jY⟩,⟨Po,Hr⟩,sd⟩:=hF;simp only[e] at hK ⊢;go_simp;refine hK.out _ _ ?_;clear hK K;have bA:=lh aT;have U6:=lh lU;have ae6:=lh oW;have Dn:=lh jY;have Wy:=lh Hr;have qY:=lh sd;have Ui:=lh hG;have ai4:=lh (show w.heap.size+2<=db from Qe bs (lU.lt db rfl).1);obtain⟨z0,z1,y0,y1,afQ⟩:=bm.out w2 hG;clear aT lU oW jY Hr sd e hA hG x0 x1 bs;generalize aO 0=u0;generalize aO 1=u1;generalize aO 2=u2;generalize aO 3=u3;generalize aO 4=u4;generalize aO 5=u5;generalize aO 6=u6;generalize aO 7=u7;generalize aO 8=u8;generalize aO 9=u9;generalize aO 10=u10;generalize aO 11=u11;go_wp2_with fail;have HZ0:=lh z0;have HZ1:=lh z1;have HY0:=lh y0;have HY1:=lh y1;have axO:=lh afQ;clear z0 z1 y0 y1 afQ;go_loopw [7,8,9,28] (λ_ _ _ iv wr=>∃ i:Nat,i<=p.e.length/\iv=.int .i64 i/\∃ xs,bN wr w1.heap.size 25 1 (.slice (some ⟨db,0,none⟩) N N) N xs ((Ql N).map λv:Nat=>Cell.row (bQ g p v (2*i)))/\(∀ k b,k<xs.length->(xs.getD k undef).ownBlock=some b->w2.heap.size<=b)/\ai [db] w2 wr) (λ_ _ _ iv _=>((p.e.length:Int) - intOf iv).toNat);case atStart =>
  refine⟨0,QG _,rfl,Qh N (.slice none 0 0),?_,λk b hk hb=>?_,ai.refl _ _⟩
  ·have h1:=uM U6.out
   rw[show ((Ql N).map λv:Nat=>Cell.row (bQ g p v (2*0)))=Qh N (.row []) by
    rw[Nat.mul_zero];simp only[nt];rw[QL];simp]
   exact h1
  simp only[Qr] at hk;simp[QI,hk,Qp] at hb
 case round =>
  obtain⟨i,hi,rfl,vs,lG,PA,AB⟩:=hrel;have Ex:=lh lG;have HLO:=lh PA;have lY:=lh AB;clear lG PA;have hw:∀ j,j<=w.heap.size+1->j ∉ [db]:=λj hj q=>by
   have:=ai4.out;rw[Qk] at q;omega
  have y0r:=lY.out.cell HY0.out (hw _ (QP _));have z1r:=lY.out.cell HZ1.out (hw _ (Nat.le_succ _));by_cases h0:i=p.e.length
  ·subst h0
   have b0:decide ((p.e.length:Int)<(p.e.length:Int))=false:=decide_eq_false (by omega);have hpn:(w2.heap[pb]?=some (.cells #[.int .i64 g.n,.slice eo g.e.length cap,.slice (some ⟨db,0,none⟩) N N,.slice (some ⟨mb,0,none⟩) N N,.slice (some ⟨lb,0,none⟩) N N,.int .i64 0,.slice none 0 0,.map (some mp)] 99 (0,0))):=bA.out;have Jx:∃ cs,w2.heap[db]?=some (.cells cs 25 (0,0)):=by
    rcases U6.out.2 with ⟨q,_⟩ | ⟨g',c',cur,q,_,hg',_⟩
    ·cases q
    simp only[Qc.injEq,Qt.injEq,Addr.mk.injEq] at q;obtain⟨⟨rfl,-⟩,-⟩:=q;exact⟨_,hg'⟩
   obtain⟨dcs,Jx⟩:=Jx;obtain⟨mcs,hmk⟩:=ae6.out.kind;obtain⟨lcs,nn⟩:=Dn.out.kind;have npd:pb≠db:=λq=>by rw[q,Jx] at hpn;simp at hpn
   have nmd:mb≠db:=λq=>by rw[q,Jx] at hmk;simp at hmk
   have nld:lb≠db:=λq=>by rw[q,Jx] at nn;simp at nn
   have nqd:mp≠db:=λq=>Wy.out.ne Jx q.symm;have hW0:ai [] w wr:=(aY.out.tr Ui.out).trans lY.out (λj hj=>QN (by rw[Qk] at hj;have:=ai4.out;omega));have HK0:=lh (show (FK.mk wr pb mb lb mp N (.slice eo g.e.length cap) (.slice (some ⟨db,0,none⟩) N N)).Ok from⟨λj hj=>by
    have bs:=lY.out.size;have e1:=lt_of_block hpn;have e2:=lt_of_block hmk;have e3:=lt_of_block nn;have e4:=Wy.out.lt;simp only[FK.own,Qs,QB,or_false] at hj;rcases hj with rfl | rfl | rfl | rfl
    ·exact Qj e1 bs
    ·exact Qj e2 bs
    ·exact Qj e3 bs
    exact Qj e4 bs,qY.out⟩)
   have fM:=lh (show ∀ j∈[pb,mb,lb,mp],w1.heap.size<=j/\j<w2.heap.size from λj hj=>by
    have e1:=lt_of_block hpn;have e2:=lt_of_block hmk;have e3:=lt_of_block nn;have e4:=Wy.out.lt;simp only[Qs,QB,or_false] at hj;rcases hj with rfl | rfl | rfl | rfl
    ·exact⟨tO,e1⟩
    ·exact⟨EN,e2⟩
    ·exact⟨Yi,e3⟩
    exact⟨Po,e4⟩)
   have HH0:=lh (show (FK.mk wr pb mb lb mp N (.slice eo g.e.length cap) (.slice (some ⟨db,0,none⟩) N N)).Has g p from by
    refine⟨oL.out,by show N<=100000;omega,by omega,hhe,HG.out.fresh hW0,λjw b n c eb q=>?_,db,N,λv=>vs.getD v undef,rfl,λq=>?_,λv (hv:v<N)=>⟨Ex.out.cell (by rw[Ex.out.cells];omega),?_,λb n c e q=>?_⟩⟩
    ·obtain⟨eo3,ao3,e3,-,-,-,lu⟩:=HG.out
     obtain⟨bb,eO,e4,H',-⟩:=lu 0 jw;simp only[Value.agg.injEq,Array.mk.injEq,List.cons.injEq,true_and,and_true] at e3;rw[e3] at eb;rw[e4] at eb;simp only[Qc.injEq,Qt.injEq] at eb;have aW:=Qi w _ H';have:=(fM.out _ q).1;have h3:=aY.out.size;rw[<-eb.1] at this;have:w1.heap.size<=bb:=this;have:bb<w.heap.size:=aW;omega
    ·simp only[FK.own,Qs,QB,or_false] at q
     rcases q with q | q | q | q
     ·exact npd q.symm
     ·exact nmd q.symm
     ·exact nld q.symm
     exact nqd q.symm
    ·have hr:=Ex.out.row (k:=v) (l:=aE g p v) (by
      rw[Qy,Qu hv];simp only[Option.map_some];rw[<-lN,ct])
     exact hr.ints
    have h1:=HLO.out v b.block (by rw[Ex.out.cells];omega) (by
     show (vs.getD v undef).ownBlock=_;have e':vs.getD v undef=.slice (some b) n c:=e;rw[e'];rfl)
    have h2:=(fM.out _ q).2;omega)
   have gp:∀ j,j≠db->j ∉ [db]:=λj h q=>h (Qk.1 q);have Vl:=lh (show dy (FK.mk wr pb mb lb mp N (.slice eo g.e.length cap) (.slice (some ⟨db,0,none⟩) N N)) g wr dW.zero (.slice none 0 0) 0 (λ_=>none) from
    ⟨lY.out.heap hpn (gp _ npd),ae6.out.aL lY.out (gp _ nmd),Dn.out.aL lY.out (gp _ nld),JW _ _,Wy.out.aL lY.out (gp _ nqd),⟨by simp[dW.zero],by simp⟩,ai.refl _ _⟩)
   have HW0:=lh hW0;have axc:=lh (show w2.heap.size<=wr.heap.size from lY.out.size);have HP0:=lh kL;obtain⟨k,hk⟩:∃ k,FK.mk wr pb mb lb mp N (.slice eo g.e.length cap) (.slice (some ⟨db,0,none⟩) N N)=k:=⟨_,rfl⟩;have hkp:k.pb=pb:=by rw[<-hk]
   have hkn:k.n=N:=by rw[<-hk]
   have UW:k.mb=mb:=by rw[<-hk]
   have hkw:k.w0=wr:=by rw[<-hk]
   have OU:k.own=[pb,mb,lb,mp]:=by rw[<-hk];rfl
   rw[hk] at HK0 HH0 Vl;have z0r:=lY.out.cell HY0.out (hw _ (QP _));have agI:=lh (show ∀ wx,ai k.own wr wx->wx.cell? ⟨w.heap.size+1,0,none⟩=some (.slice ao p.v.length ac) from λwx hx=>hx.cell z0r λq=>by
    rw[OU] at q;have:=(fM.out _ q).1;have h3:=(bm.out w1 (ai.refl _ _)).2.2.2.2;have:w1.heap.size<=w.heap.size+1:=this;omega)
   have IQ:=lh (show ∀ wx,ai k.own wr wx->∀ i,i<p.v.length->∃ ab lH,ao=some ⟨ab,lH,none⟩/\wx.cell? ⟨ab,lH+i,none⟩=some (.int .i64 (p.v.getD i 0)) from λwx hx i hi=>by
    obtain⟨ab,lH,e,Ia⟩:=pU.out (λq=>by rw[q] at hi;simp at hi);have h1:=Ia i hi;refine⟨ab,lH,e,hx.cell (hW0.bO h1) λq=>?_⟩;rw[OU] at q;have h2:=(fM.out _ q).1;have h3:=Qi w _ h1;have h4:=aY.out.size;have:ab<w.heap.size:=h3;have:w1.heap.size<=ab:=h2;omega)
   have z0q:=agI.out wr (ai.refl _ _);have HKP:=lh hkp;have HKN:=lh hkn;have HKM:=lh UW;have HKW:=lh hkw;have HKO:=lh OU;clear hi AB hpn Jx hmk nn npd nmd nld nqd gp hW0 hk hkp hkn UW hkw OU z0r;go_wp2_with fail;clear z0q;rename World=>wi;go_loopw [11,83] (λ_ iv wr=>∃ i:Nat,i<=p.v.length/\iv=.int .i64 i/\∃ t,Hid (t=lq g p p.v.length (p.v.take i) dW.zero)/\Hid (KY g p t)/\Fin k g p wr t 0) (λ_ iv _=>((p.v.length:Int) - intOf iv).toNat);case atStart=>exact⟨0,QG _,rfl,_,lh rfl,lh KY.start,_,_,_,Vl.out,by have:=ahE.out;show 0+0+yq g p dW.zero+0<=100000;omega,by have:=ahE.out;show (0:Int)+yq g p dW.zero<=100000;omega⟩
   case round =>
    obtain⟨i,hi,rfl,t,ht,htp,ev,m,F,hf,rX,mD⟩:=hrel;have Ke:=lh hf;have HCK:=lh (show ai k.own wi wr by have:=hf.aL;rw[HKW.out] at this;exact this);have MI:=lh rX;have sY:=lh mD;have z0q:=agI.out wr HCK.out;by_cases h0:i=p.v.length
    ·subst h0
     have b0:decide ((p.v.length:Int)<(p.v.length:Int))=false:=decide_eq_false (by omega);clear hf rX mD hi;go_wp2;go_ret;refine⟨k,ev,m,F,(by rw[HKP.out];rfl),HKN.out,?_,?_,HK0.out,?_,λj hj=>?_,?_⟩
     ·have h1:=Ke.out
      rw[ht.out,QK] at h1;exact h1
     ·have h1:=MI.out
      rw[ht.out,QK] at h1;show m+(findAll g p).ed.length<=100000;unfold findAll;omega
     ·rw[HKW.out];exact HW0.out.size
     ·rw[HKO.out] at hj
      have h1:=(fM.out j hj).1;have h2:=aY.out.size;omega
     refine HW0.out.trans HCK.out λj hj=>QN ?_;rw[HKO.out] at hj;have h1:=(fM.out j hj).1;have h2:=aY.out.size;omega
    have lK:i<p.v.length:=by omega
    have nC:(i:Int)<(p.v.length:Int):=by omega
    obtain⟨ab,lH,rfl,Ob⟩:=IQ.out wr HCK.out i lK;have YU:p.v.getD i 0∈p.v:=aQ lK;have NW:=HP0.out.vr _ YU;obtain⟨v,hv⟩:∃ v:Nat,p.v.getD i 0=v:=⟨(p.v.getD i 0).toNat,by omega⟩;rw[hv] at Ob YU NW;have AL:v<N:=by have:=NW.2;rw[oL.out] at this;omega
    have Pf:(v:Int)<(N:Int):=by omega
    have hTK:t.met v=0->_:=λq=>KY.step HP0.out htp.out YU q (n:=p.v.length) (QF _ _);have uH:=lh hTK;have Ek:=lh (show lq g p p.v.length (p.v.take (i+1)) dW.zero=if t.met v=0 then visit g p p.v.length v (-1) t else t by
     rw[List.take_succ_eq_append_getElem lK];unfold lq;rw[List.foldl_append];have e:p.v[i]=(v:Int):=by rw[<-hv];simp[QI,lK]
     rw[e];have h1:=ht.out;unfold lq at h1;rw[<-h1];rfl)
    obtain⟨-,-,-,a3,-,-,-,-⟩:=hf.eight;rw[HKP.out,HKM.out,HKN.out] at a3;have cm:=hf.met.cell (v:=v) (by rw[HKN.out];exact AL);rw[HKM.out] at cm;obtain⟨tm,Aw⟩:∃ tm,t.met (v:Int)=tm:=⟨_,rfl⟩;have Ow:=lh Aw;rw[Aw] at cm;have HVM:=lh YU;clear hf rX mD hv YU NW hTK Aw h0;by_cases c0:tm=0
    ·have b1:(tm==0)=true:=by simp[c0]
     have hE:xD g p t [] v (-1):=⟨htp.out.cd,HVM.out,by rw[Ow.out];exact c0,QA ⟨rfl,rfl⟩,by rw[htp.out.ed];simp,by rw[htp.out.ed];simp⟩;have hV:=Ah k g p HK0.out HH0.out HP0.out p.v.length t [] v (-1) 0 wr hE (QF _ _) ⟨ev,m,F,Ke.out,MI.out,sY.out⟩;rw[HKP.out] at hV;have HV:=lh hV;clear hE hV;go_wp2_with fail;refine HV.out.mono ?_;rintro _ w3 ⟨rfl,hv3⟩;have HV3:=lh hv3;clear hv3;go_wp2;go_roundw;case rel =>
      have h1:=Ek.out;rw[if_pos (by rw[Ow.out];exact c0)] at h1;refine⟨i+1,by omega,by go_num,_,lh h1.symm,lh (uH.out (by rw[Ow.out];exact c0)).1,HV3.out⟩
     case measure=>simp[intOf];omega
    have b1:(tm==0)=false:=by simp[c0]
    go_wp2;go_roundw;case rel =>
     have h1:=Ek.out;rw[if_neg (by rw[Ow.out];exact c0),ht.out] at h1;exact⟨i+1,by omega,by go_num,t,lh (by rw[h1];exact ht.out),htp,ev,m,F,Ke.out,MI.out,sY.out⟩
    case measure=>simp[intOf];omega
  have lK:i<p.e.length:=by omega
  have nC:(i:Int)<(p.e.length:Int):=by omega
  obtain⟨eb,aoW,rfl,RD⟩:=nG.out (λq=>by rw[q] at lK;simp at lK);have abu:=RD i lK;have iM:=Qi w _ abu;have af4:=lY.out.cell ((aY.out.tr Ui.out).bO abu) (hw _ (Qz (Qv iM)));have rA:p.e.getD i 0∈p.e:=aQ lK;obtain⟨en,lJ⟩:∃ en:Nat,p.e.getD i 0=en:=⟨(p.e.getD i 0).toNat,by have:=kL.er _ rA;omega⟩;rw[lJ] at af4 rA;have WD:en<g.e.length:=by have:=hhe _ rA;omega
  obtain⟨eo2,tM,eq2,-,-,-,lu⟩:=HG.out;cases eq2;obtain⟨gb,Wc,rfl,ha,hb⟩:=lu en WD;have EX:=Qi w _ ha;have ha2:=lY.out.cell ((aY.out.tr Ui.out).bO ha) (hw _ (Qz (Qv EX)));have gY:=lY.out.cell ((aY.out.tr Ui.out).bO hb) (hw _ (Qz (Qv EX)));have dp:=kL.ends _ rA;rw[show g.at (en:Int)=g.ends en by simp[Gr.at]] at dp;obtain⟨a,AM⟩:∃ a:Nat,(g.ends en).1=a:=⟨(g.ends en).1.toNat,by have:=(kL.vr _ dp.1).1;omega⟩;obtain⟨b,Yr⟩:∃ b:Nat,(g.ends en).2=b:=⟨(g.ends en).2.toNat,by have:=(kL.vr _ dp.2).1;omega⟩;have haN:a<N:=by have:=(kL.vr _ dp.1).2;rw[AM,oL.out] at this;omega
  have hbN:b<N:=by have:=(kL.vr _ dp.2).2;rw[Yr,oL.out] at this;omega
  rw[AM] at ha2;rw[Yr] at gY;have II:=lh AM;have En:=lh Yr;have AN:=lh lJ;clear RD abu lu ha hb AM Yr lJ dp rA h0;have aw5:(en:Int)<(g.e.length:Int):=by omega
  go_wp2_with fail;have aG:ai [] wr wr.drew:=(ai.refl [] wr).drew;refine al (ai [] wr) [0,1,2,3,4,5,6,7,8,9,10,11,12,13] (Way.line [0,1,2,3,4,5,6,7,8,9,10,11,12,13] .done) (by kernel_rfl) (by kernel_rfl) ?_;simp only[Way.line]
  repeat (refine aj (v:=?_) rfl (by rfl) (by rfl) (λ_ _ _ h=>h) aG (λw' aB=>?_) ?_;rotate_left;(focus (have fE:=aB.c z1r;have fV:=aB.c ha2;have kD:=aB.c gY;clear aB;go_simp;try with_reducible rfl));simp only[Qo,Z1,Z2,Z3,Z4,Z5,Z6])
  refine ar ?_;have RY:=lh (Ex.out.fresh aG);have ab5:=HLO;have RB:=lh (lY.out.tr aG);have hpc:=(cell_of_row w2 pb 2 _ _ _ bA.out).trans (show _=some (Qc (some ⟨db,0,none⟩) N N) from rfl);have TL:=lh (show ∀ wx,ai [db] w2 wx->wx.cell? ⟨pb,2,none⟩=some (.slice (some ⟨db,0,none⟩) N N) from λwx hx=>hx.cell hpc λq=>by
   rw[Qk] at q;have q:pb=db:=q;rcases U6.out.2 with ⟨q2,_⟩ | ⟨g',c',cur,q2,_,hg',_⟩
   ·cases q2
   simp only[Qc.injEq,Qt.injEq,Addr.mk.injEq] at q2;obtain⟨⟨rfl,-⟩,-⟩:=q2;have h1:=bA.out;rw[q,hg'] at h1;simp at h1)
  have YD:=lh (show ∀ wx,ai [db] w2 wx->wx.heap[pb]?=some (.cells #[.int .i64 g.n,.slice (some ⟨gb,Wc,none⟩) g.e.length cap,.slice (some ⟨db,0,none⟩) N N,.slice (some ⟨mb,0,none⟩) N N,.slice (some ⟨lb,0,none⟩) N N,.int .i64 0,.slice none 0 0,.map (some mp)] 99 (0,0)) from λwx hx=>hx.heap bA.out λq=>by
   rw[Qk] at q;rcases U6.out.2 with ⟨q2,_⟩ | ⟨g',c',cur,q2,_,hg',_⟩
   ·cases q2
   simp only[Qc.injEq,Qt.injEq,Addr.mk.injEq] at q2;obtain⟨⟨rfl,-⟩,-⟩:=q2;have h1:=bA.out;rw[q,hg'] at h1;simp at h1)
  have E6:p.ah.length=2*p.e.length:=ct p;have Xc:=lh (show p.ah.getD (2*i) 0=2*(en:Int) by have:=lB lK 0 (by omega);rw[AN.out] at this;simpa using this);have HD1:=lh (show p.ah.getD (2*i+1) 0=2*(en:Int)+1 by have:=lB lK 1 (by omega);rw[AN.out] at this;simpa using this);have HT0:=lh (show g.tail (2*(en:Int))=a by rw[<-II.out];have:=(kO g en).1;simpa using this);have Zl:=lh (show g.tail (2*(en:Int)+1)=b by rw[<-En.out];have:=(mS g en).1;simpa using this);have nk:=lh (show p.e.length<=1024 by have:=ep (Pt.aF uu.out).2.2.1;omega);have DY:=lh E6;clear aG z1r ha2 gY y0r af4 AB E6 hpc;generalize wr.drew=wa at *;have ww0:IntKind.i64.wrap (2*(en:Int))=2*(en:Int):=IntWalk.i64_in _ (by omega);have ww1:IntKind.i64.wrap (2*(en:Int)+1)=2*(en:Int)+1:=IntWalk.i64_in _ (by omega);have pc:=TL.out wa RB.out;have aG:ai [] wa wa.drew:=(ai.refl [] wa).drew;have Vt:=RY.out.cells;obtain⟨va,vc,zz,yR,w3,p1,p2,p3,p4,p5,p6,p7,p8,p9,PF,p11⟩:=qi (q:=a) (x:=2*(en:Int)) (RY.out.fresh aG) (by decide) (Qe (RY.out.out.lt db rfl).1 (Qe (Qv (RY.out.out.lt db rfl).2) aG.size)) (by rw[Vt];show a<N*1;omega) (show _=some (Cell.row (bQ g p a (2*i))) by rw[Qy,Qu haN];rfl) (bF.mk (by omega) (by omega)) (by have h1:=iJ g p a (2*i);have h2:=nk.out;omega);have Aa:(bQ g p a (2*i)).length<=2*i:=iJ g p a (2*i);obtain⟨ln,RE⟩:∃ ln,(bQ g p a (2*i)).length=ln:=⟨_,rfl⟩;have Ik:=lh p2;have Xt:=lh (Ln ab5.out (by rw[Vt];show a<N*1;omega) p7 p6 rfl rfl (Qe RB.out.size aG.size));have OK:=lh (show ai [db] w2 _ from (RB.out.tr aG).trans p8 (λj hj=>by
   rcases Qs.1 hj with q | q
   ·exact QA (by simp[q])
   refine QN (ab5.out a j (by rw[Vt];show a<N*1;omega) ?_);rw[p7];simpa[aC] using q))
  have OH:=lh (show bN _ w1.heap.size 25 1 (.slice (some ⟨db,0,none⟩) N N) N _ ((Ql N).map λv:Nat=>Cell.row (bQ g p v (2*i+1))) by
   have h1:=Cd (g:=g) (p:=p) (N:=N) (k:=2*i) (a:=a) (d:=2*(en:Int)) (by rw[DY.out];omega) Xc.out HT0.out;rw[<-h1];exact p5)
  have R5:wa.heap[pb]?=some (.cells #[.int .i64 g.n,.slice (some ⟨gb,Wc,none⟩) g.e.length cap,.slice (some ⟨db,0,none⟩) N N,.slice (some ⟨mb,0,none⟩) N N,.slice (some ⟨lb,0,none⟩) N N,.int .i64 0,.slice none 0 0,.map (some mp)] 99 (0,0)):=YD.out _ RB.out;have PL:=p11 pb _ _ _ R5 (by decide);rw[RE] at Ik Xt OK OH p1 p3 p9 PF PL;have Ll:=lh p9;have p1b:wa.cell? ⟨db,a,none⟩=some (.slice va ln vc):=p1;clear p2 p5 p6 p7 p8 p9 p11 R5;go_wp2_with fail;have bH:ai (aC (.slice va ln vc)) wa wa.drew:=aG.mono (by simp);refine al (ai (aC (.slice va ln vc)) wa) [0,1,2,3,4,5,6,7,8,9,10,11,12,13] (Way.line [0,1,2,3,4,5,6,7,8,9,10,11,12,13,14,15,16,17] .done) (by kernel_rfl) (by kernel_rfl) ?_;simp only[Way.line]
  repeat (refine aj (v:=?_) rfl (by rfl) (by rfl) (λ_ _ _ h=>h) bH (λw' aB=>?_) ?_;rotate_left;(focus (have fE:=aB.cell pc (by first | exact PL | exact PF);have fV:=aB.cell p1b (by first | exact PL | exact PF);clear aB;go_simp;try with_reducible rfl));simp only[Qo,Z1,Z2,Z3,Z4,Z5,Z6])
  refine aq rfl (by rfl) (by rfl) (λK hK=>?_);go_simp;refine hK.out _ _ (λ_=>bH.alloc _) ?_;clear hK K;try simp only[Qo,Z1,Z2,Z3,Z4,Z5,Z6]
  refine aq rfl (by rfl) (by rfl) (λK hK=>?_);simp only[QH,QC,QD];refine mZ (.tmp 55) (.tmp 58) 25 rfl rfl rfl Ik.out ?_;refine hK.out _ _ (λ_=>(aG.mono (by simp)).trans Ll.out (λj hj=>QA hj)) ?_;clear hK K;try simp only[Qo,Qn,Qw,Qx]
  refine aq rfl (by rfl) (by rfl) (λK hK=>?_);go_simp;refine hK.out _ _ (λh=>absurd h (Qq.1 (by kernel_rfl))) ?_;clear hK K;try simp only[Qo,Z1,Z2,Z3,Z4,Z5,Z6]
  refine aq rfl (by rfl) (by rfl) (λK hK=>?_);go_simp;refine hK.out _ _ (λh=>absurd h (Qq.1 (by kernel_rfl))) ?_;clear hK K;try simp only[Qo,Z1,Z2,Z3,Z4,Z5,Z6]
  refine ar ?_;generalize (w3.setCell ⟨db,a,none⟩ (.slice zz (ln+1) yR))=wb at *;clear p1 p1b p3 p4 PF PL bH Ll Ik pc aG Aa RE RY ab5 RB Vt;have pc:=TL.out wb OK.out;have aG:ai [] wb wb.drew:=(ai.refl [] wb).drew;have W6:=OH.out.cells;obtain⟨va,vc,zz,yR,w3,p1,p2,p3,p4,p5,p6,p7,p8,p9,PF,p11⟩:=qi (q:=b) (x:=2*(en:Int)+1) (OH.out.fresh aG) (by decide) (Qe (OH.out.out.lt db rfl).1 (Qe (Qv (OH.out.out.lt db rfl).2) aG.size)) (by rw[W6];show b<N*1;omega) (show _=some (Cell.row (bQ g p b (2*i+1))) by rw[Qy,Qu hbN];rfl) (bF.mk (by omega) (by omega)) (by have h1:=iJ g p b (2*i+1);have h2:=nk.out;omega);have Aa:(bQ g p b (2*i+1)).length<=2*i+1:=iJ g p b (2*i+1);obtain⟨ln,RE⟩:∃ ln,(bQ g p b (2*i+1)).length=ln:=⟨_,rfl⟩;have Ik:=lh p2;have aiY:=lh (Ln Xt.out (by rw[W6];show b<N*1;omega) p7 p6 rfl rfl (Qe OK.out.size aG.size));have ae5:=lh (show ai [db] w2 _ from (OK.out.tr aG).trans p8 (λj hj=>by
   rcases Qs.1 hj with q | q
   ·exact QA (by simp[q])
   refine QN (Xt.out b j (by rw[W6];show b<N*1;omega) ?_);rw[p7];simpa[aC] using q))
  have Dd:=lh (show bN _ w1.heap.size 25 1 (.slice (some ⟨db,0,none⟩) N N) N _ ((Ql N).map λv:Nat=>Cell.row (bQ g p v (2*i+1+1))) by
   have h1:=Cd (g:=g) (p:=p) (N:=N) (k:=2*i+1) (a:=b) (d:=2*(en:Int)+1) (by rw[DY.out];omega) HD1.out Zl.out;rw[<-h1];exact p5)
  have R5:wb.heap[pb]?=some (.cells #[.int .i64 g.n,.slice (some ⟨gb,Wc,none⟩) g.e.length cap,.slice (some ⟨db,0,none⟩) N N,.slice (some ⟨mb,0,none⟩) N N,.slice (some ⟨lb,0,none⟩) N N,.int .i64 0,.slice none 0 0,.map (some mp)] 99 (0,0)):=YD.out _ OK.out;have PL:=p11 pb _ _ _ R5 (by decide);rw[RE] at Ik aiY ae5 Dd p1 p3 p9 PF PL;have Ll:=lh p9;have p1b:wb.cell? ⟨db,b,none⟩=some (.slice va ln vc):=p1;clear p2 p5 p6 p7 p8 p9 p11 R5;go_wp2_with fail;have bH:ai (aC (.slice va ln vc)) wb wb.drew:=aG.mono (by simp);refine al (ai (aC (.slice va ln vc)) wb) [0,1,2,3,4,5,6,7,8,9,10,11,12,13,14] (Way.line [0,1,2,3,4,5,6,7,8,9,10,11,12,13,14,15,16,17,18] .done) (by kernel_rfl) (by kernel_rfl) ?_;simp only[Way.line]
  repeat (refine aj (v:=?_) rfl (by rfl) (by rfl) (λ_ _ _ h=>h) bH (λw' aB=>?_) ?_;rotate_left;(focus (have fE:=aB.cell pc (by first | exact PL | exact PF);have fV:=aB.cell p1b (by first | exact PL | exact PF);clear aB;go_simp;try with_reducible rfl));simp only[Qo,Z1,Z2,Z3,Z4,Z5,Z6])
  refine aq rfl (by rfl) (by rfl) (λK hK=>?_);go_simp;refine hK.out _ _ (λ_=>bH.alloc _) ?_;clear hK K;try simp only[Qo,Z1,Z2,Z3,Z4,Z5,Z6]
  refine aq rfl (by rfl) (by rfl) (λK hK=>?_);simp only[QH,QC,QD];refine mZ (.tmp 72) (.tmp 76) 25 rfl rfl rfl Ik.out ?_;refine hK.out _ _ (λ_=>(aG.mono (by simp)).trans Ll.out (λj hj=>QA hj)) ?_;clear hK K;try simp only[Qo,Qn,Qw,Qx]
  refine aq rfl (by rfl) (by rfl) (λK hK=>?_);go_simp;refine hK.out _ _ (λh=>absurd h (Qq.1 (by kernel_rfl))) ?_;clear hK K;try simp only[Qo,Z1,Z2,Z3,Z4,Z5,Z6]
  refine aq rfl (by rfl) (by rfl) (λK hK=>?_);go_simp;refine hK.out _ _ (λh=>absurd h (Qq.1 (by kernel_rfl))) ?_;clear hK K;try simp only[Qo,Z1,Z2,Z3,Z4,Z5,Z6]
  refine ar ?_;generalize (w3.setCell ⟨db,b,none⟩ (.slice zz (ln+1) yR))=wc at *;clear p1 p1b p3 p4 PF PL bH Ll Ik pc aG Aa RE OH Xt OK W6;go_wp2;go_roundw;case rel=>exact⟨i+1,by omega,by go_num,_,Dd.out,aiY.out,ae5.out⟩
  case measure=>simp[intOf];omega
