/- As XCalm, with marked makers whose blocks are told apart. No program here. Printed by calm2_gen.py. -/
import Derived.Test.YtoiflofhcmjpoaaGreatD9VisW
open List renaming getD_cons_zero→Qa,getD_cons_succ→Qb,cons_append→Qd,nil_append→Qf,replicate→Qh,mem_singleton→Qk,range→Ql,setIfInBounds_toArray→Qn,length_replicate→Qr,mem_cons→Qs,getElem?_range→Qu,set_cons_zero→Qw,set_cons_succ→Qx,getElem?_map→Qy,not_mem_nil→QB,getElem_cons_zero→QC,getElem_cons_succ→QD,length_filter_le→QF,getElem_toArray→QH,getD→QI,all_eq_true→QJ,take_length→QK,map_const'→QL,mem_range→QM
open Go.Value renaming slice→Qc,ownBlock→Qp
open Nat renaming le_trans→Qe,lt_of_lt_of_le→Qj,le_of_lt→Qv,le_succ_of_le→Qz,zero_le→QG,lt_or_ge→QO,le_refl→QP
open Array renaming getElem?_eq_getElem→Qg,getElem?_eq_some_iff→Qm,replicate→QE
open Go.World renaming block_lt_of_cell?→Qi
open Go.Act renaming put→Qo
open Bool renaming eq_false_iff→Qq
open Option renaming some→Qt
open Or renaming inl→QA,inr→QN
namespace Go.Proofs.YtoiflofhcmjpoaaGreat
open Go
section
variable {P : Program} {ops : Array Oper} {Q : Exit -> Act -> World -> Prop} {md : Region.Mode} {w0 : World} {fr : (Nat -> Value) -> Act} {z : Nat} {fin M : List Nat}
def PI (v:Value) (w w':World):Prop:=∀ b,v.ownBlock=some b->w.heap.size<=b/\b<w'.heap.size
def kp (d M:List Nat) (aH:Nat->Value):Prop:=∀ i∈M,∀ j∈M,i∈d->j∈d->i≠j->∀ b,(aH i).ownBlock=some b->(aH j).ownBlock≠some b
def nW (P:Program) (ops:Array Oper) (Q:Exit->Act->World->Prop) (w0:World) (fr:(Nat->Value)->Act) (z:Nat) (fin:List Nat) (M:List Nat) (L:List (Value->World->Prop)):Nat->List (Oper × List Nat)->Prop
 | _,[]=>∀ aH w,ag [] w0 w->fJ L aH w fin->kp fin M aH->wpOp P ops Q z (fun a' w'=>Q .normal a' w') (fr aH) w
 | i,(o,d) :: r=>∃ p,(Calm p/\∀ aH w,ag [] w0 w->fJ L aH w d->kp d M aH->wpOp P ops Q i (fun a' w'=>∃ v,a'=(fr aH).put o.dst v/\p v w'/\ag [] w w'/\(i∈M->PI v w w')) (fr aH) w)/\nW P ops Q w0 fr z fin M (L++[p]) (i+1) r
theorem xO:∀ (todo:List (Oper × List Nat)) (i:Nat) (L:List (Value->World->Prop)),L.length=i->nW P ops Q w0 fr z fin M L i todo->(∀ k o d,todo[k]?=some (o,d)->∀ x∈d,x<i+k) ->
  ∃ L',(∀ j,j<i->L'.getD j (fun _ _=>True)=L.getD j (fun _ _=>True))/\L'.length=i+todo.length /\
   (∀ k o d,todo[k]?=some (o,d)->Calm (L'.getD (i+k) (fun _ _=>True))/\∀ aH w,ag [] w0 w->fJ L' aH w d->kp d M aH->wpOp P ops Q (i+k) (fun a' w'=>∃ v,a'=(fr aH).put o.dst v/\(L'.getD (i+k) (fun _ _=>True)) v w'/\ag [] w w'/\(i+k∈M->PI v w w')) (fr aH) w) /\
   (∀ aH w,ag [] w0 w->fJ L' aH w fin->kp fin M aH->wpOp P ops Q z (fun a' w'=>Q .normal a' w') (fr aH) w)
 | [],i,L,hl,h,_=>⟨L,fun _ _=>rfl,by simp[hl],fun k o d hk=>by simp at hk,h⟩
 | (o,d) :: r,i,L,hl,⟨p,⟨h1,h2⟩,h3⟩,hd=>by
  obtain⟨L',k1,k2,k3,k4⟩:=xO r (i+1) (L++[p]) (by simp[hl]) h3 (fun k o' d' hk x hx=>by have:=hd (k+1) o' d' (by simpa using hk) x hx;omega);have hp:L'.getD i (fun _ _=>True)=p:=by
   rw[k1 i (by omega)];simp[QI,hl]
  have hold:∀ j,j<i->L'.getD j (fun _ _=>True)=L.getD j (fun _ _=>True):=fun j hj=>by
   rw[k1 j (by omega)];simp[QI,List.getElem?_append_left (by omega:j<L.length)]
  refine⟨L',hold,by rw[k2];simp;omega,fun k o' d' hk=>?_,k4⟩;cases k with
  | zero =>
   obtain⟨rfl,rfl⟩:o=o'/\d=d':=by simpa using hk
   rw[Nat.add_zero,hp];refine⟨h1,fun aH w hG hF hA=>h2 aH w hG ?_ hA⟩;rw[<-sm (L:=L') (L':=L) (fun x hx=>hold x (by have:=hd 0 o d rfl x hx;omega))];exact hF
  | succ k =>
   have:=k3 k o' d' (by simpa using hk);rw[show i+1+k=i+(k+1) by omega] at this;exact this
theorem Bf {a0:Act} {deps:Nat->List Nat} {I:Nat->Value->World->Prop} (qR:∀ aH,fr aH=iF aH 0 ops.toList a0) (iY:apart ops.toList=true)
  (SO:∀ j oj,ops[j]?=some oj->∀ e∈oj.after,Region.binds md e=true->e.on<j) (TK:∀ j oj,ops[j]?=some oj->∀ x∈deps j,∃ e∈oj.after,Region.binds md e=true/\e.on=x)
  (FE:∀ ax:Array Bool,ax.size=ops.size->(∀ j oj,ops[j]?=some oj->ax.getD j false=true->∀ e∈oj.after,Region.binds md e=true->ax.getD e.on false=true)->z∈Region.ready md ops ax->∀ j,j<ops.size->j≠z->ax.getD j false=true) (hM:∀ j∈M,j<ops.size/\j≠z) (hz:z<ops.size)
  (jM:∀ i o,ops[i]?=some o->i≠z->Calm (I i)/\∀ aH w,ag [] w0 w->(∀ x∈deps i,I x (aH x) w)->kp (deps i) M aH ->
   wpOp P ops Q i (fun a' w'=>∃ v,a'=(fr aH).put o.dst v/\I i v w'/\ag [] w w'/\(i∈M->PI v w w')) (fr aH) w)
  (Eg:∀ aH w,ag [] w0 w->(∀ j,j<ops.size->j≠z->I j (aH j) w)->(∀ d,kp d M aH)->wpOp P ops Q z (fun a' w'=>Q .normal a' w') (fr aH) w) :
  ∀ (fuel:Nat) (ax:Array Bool) (aH:Nat->Value) (w:World),ax.size=ops.size->(Ql ops.size).countP (fun j=>!ax.getD j false)<=fuel ->
   (∀ j oj,ops[j]?=some oj->ax.getD j false=true->∀ e∈oj.after,Region.binds md e=true->ax.getD e.on false=true) ->
   ax.getD z false=false->(∀ j,ax.getD j false=true->I j (aH j) w)->(∀ j∈M,ax.getD j false=true->∀ b,(aH j).ownBlock=some b->b<w.heap.size)->(∀ i∈M,∀ j∈M,i≠j->ax.getD i false=true->ax.getD j false=true->∀ b,(aH i).ownBlock=some b->(aH j).ownBlock≠some b)->ag [] w0 w->wpAny P md ops Q fuel ax (fr aH) w:=by
 have dH:∀ ax:Array Bool,ax.size=ops.size->Region.ready md ops ax=[]->∀ j,j<ops.size->ax.getD j false=true:=by
  intro ax hs Ca j
  induction j using Nat.strongRecOn with
  | _ j ih =>
   intro hj;apply Classical.byContradiction;intro hc;have:j∈Region.ready md ops ax:=by
    refine mem_ready.2 ⟨?_,ops[j],Qg hj,fun e he hb=>ih e.on (SO j _ (Qg hj) e he hb) (by have:=SO j _ (Qg hj) e he hb;omega)⟩
    grind
   grind
 have Cd:∀ ax:Array Bool,ax.size=ops.size->(∀ j,j<ops.size->ax.getD j false=true)->Region.ready md ops ax=[]:=by
  intro ax hs ha;refine List.eq_nil_iff_forall_not_mem.2 fun j hj=>?_;obtain⟨h0,o,ho,-⟩:=mem_ready.1 hj
  grind
 intro fuel
 induction fuel with
 | zero =>
  intro ax aH w hs hc nP NI h1 nT jo hG;exact absurd (by grind) (List.countP_eq_zero.1 (Nat.le_zero.1 hc) z (by grind))
 | succ fuel ih =>
  intro ax aH w hs hc nP NI h1 nT jo hG;refine⟨fun Ca=>absurd (dH ax hs Ca z hz) (by grind),fun i hi=>?_⟩;obtain⟨h0,o,ho,age⟩:=mem_ready.1 hi;have aL:i<ops.size:=(Qm.1 ho).1;have hl:i<ax.size:=by omega
  have h0':ax.getD i false=false:=by simp[hl] at h0 ⊢;exact h0
  have aZ:∀ j,(ax.setIfInBounds i true).getD j false=if j=i then true else ax.getD j false:=fun j=>by
   by_cases lA:j=i
   ·subst lA;simp[hl]
   rw[getD_set_ne false (Ne.symm lA),if_neg lA]
  by_cases hiz:i=z
  ·subst hiz
   have ha:∀ j,j<ops.size->(ax.setIfInBounds i true).getD j false=true:=fun j hj=>by
    all_goals grind
   have Ca:=Cd (ax.setIfInBounds i true) (by grind) ha;refine wpOp_mono ?_ (Eg aH w hG (fun j hj lA=>h1 j (FE ax hs nP hi j hj lA)) (fun _ i' xA j hj _ _ bh=>jo i' xA j hj bh (FE ax hs nP hi i' (hM i' xA).1 (hM i' xA).2) (FE ax hs nP hi j (hM j hj).1 (hM j hj).2)));intro a' w' hq;cases fuel with
   | zero=>exact⟨Ca,hq⟩
   | succ fuel=>exact⟨fun _=>hq,fun k hk=>by grind⟩
  refine wpOp_mono ?_ ((jM i o ho hiz).2 aH w hG (fun x hx=>?_) (fun i' xA j hj hid hjd bh=>jo i' xA j hj bh (by grind) (by grind)))
  ·rintro a' w' ⟨v,rfl,hv,hR,hN⟩
   have e:(fr aH).put o.dst v=fr (nV aH i v):=by
    rw[qR,qR];have:=yj aH v ops.toList 0 i o a0 iY (by grind)
    grind
   rw[e];refine ih _ _ _ (by grind) ?_ (fun j oj hj LU e he hb=>?_) ?_ (fun j hj=>?_) (fun j hj LU b hb=>?_) (fun i' xA j hj bh VJ LU b hb q=>?_) (hG.t hR)
   ·have:=mC (fun j=>!ax.getD j false) (fun j=>!(ax.setIfInBounds i true).getD j false) i (by grind) (by grind) (fun k hk=>by grind) ops.size aL
    omega
   ·rw[aZ] at LU ⊢
    all_goals grind
   ·grind
   ·by_cases lA:j=i
    ·subst lA
     rw[show nV aH j v j=v from if_pos rfl];exact hv
    rw[aZ,if_neg lA] at hj;rw[show nV aH i v j=aH j from if_neg lA];have hjz:j≠z:=fun q=>by rw[q,NI] at hj;cases hj
    have rj:j<ax.size:=by
     rcases QO j ax.size with q | q
     ·exact q
     simp[Array.getElem?_eq_none q] at hj
    obtain⟨oj,T9⟩:∃ oj,ops[j]?=some oj:=⟨_,Qg (by omega)⟩;exact (jM j oj T9 hjz).1 _ _ _ hR (h1 j hj)
   ·by_cases lA:j=i
    ·subst lA
     rw[show nV aH j v j=v from if_pos rfl] at hb;exact (hN hj b hb).2
    rw[aZ,if_neg lA] at LU;rw[show nV aH i v j=aH j from if_neg lA] at hb;exact Qj (nT j hj LU b hb) hR.size
   rw[aZ] at VJ LU;by_cases Sh:i'=i
   ·subst Sh
    rw[show nV aH i' v i'=v from if_pos rfl] at hb;rw[if_neg (Ne.symm bh)] at LU;rw[show nV aH i' v j=aH j from if_neg (Ne.symm bh)] at q;have h1:=(hN xA b hb).1
    grind
   rw[if_neg Sh] at VJ;rw[show nV aH i v i'=aH i' from if_neg Sh] at hb;by_cases lA:j=i
   ·subst lA
    rw[show nV aH j v j=v from if_pos rfl] at q;have h1:=(hN hj b q).1
    grind
   all_goals grind [nV]
  all_goals grind
theorem s5 {id:Nat} {a:Act} {w:World} (deps:List (List Nat)) (fin:List Nat) (M:List Nat) (hMM:(M.all fun j=>decide (j<ops.size - 1))=true) (hm:P.follows .mixedOrders=true)
  (hc:GW .any ops deps fin=true) (hG:ag [] w0 w.drew)
  (h':∀ fr:(Nat->Value)->Act,(∀ aH,iF aH 0 ops.toList a=fr aH)->nW P ops Q w0 fr (ops.size - 1) fin M [] 0 (ops.toList.dropLast.zip deps)):(Code.region id ops true).wp P Q a w:=by
 obtain⟨fr,qR⟩:∃ fr:(Nat->Value)->Act,∀ aH,iF aH 0 ops.toList a=fr aH:=⟨_,fun _=>rfl⟩;have h:=h' fr qR;unfold GW at hc;simp only[Bool.and_eq_true,Bool.or_eq_true,decide_eq_true_eq,beq_iff_eq,QJ,QM,List.contains_eq_mem] at hc;obtain⟨⟨⟨⟨⟨iY,hlen⟩,SO⟩,aqC⟩,hz⟩,sV⟩:=hc;have ET:0<ops.size:=by omega
 have ako:∀ k o,ops[k]?=some o->k≠ops.size - 1->(ops.toList.dropLast.zip deps)[k]?=some (o,deps.getD k []):=fun k o ho hk=>by
  grind
 have apo:∀ k o d,(ops.toList.dropLast.zip deps)[k]?=some (o,d)->ops[k]?=some o/\deps.getD k []=d/\k<ops.size - 1:=fun k o d hk=>by
  all_goals grind
 have WU:∀ j oj,ops[j]?=some oj->∀ e∈oj.after,Region.binds .any e=true->e.on<j:=fun j oj hj e he hb =>
  SO j (Qm.1 hj).1 e.on (jD.2 ⟨oj,hj,e,he,hb,rfl⟩)
 have TK:∀ j oj,ops[j]?=some oj->∀ x∈(if j<ops.size - 1 then deps.getD j [] else []),∃ e∈oj.after,Region.binds .any e=true/\e.on=x:=fun j oj hj x hx=>by
  all_goals grind [jD]
 obtain⟨L,-,-,hO,hE⟩:=xO _ 0 [] rfl h (fun k o d hk x hx=>by
  grind)
 refine wp_region_any hm ?_;have Xj:=Bf (P:=P) (Q:=Q) (md:=.any) (a0:=a) (w0:=w0) (deps:=fun j=>if j<ops.size - 1 then deps.getD j [] else []) (I:=fun j=>if j<ops.size - 1 then L.getD j (fun _ _=>True) else fun _ _=>True) (fr:=fr) (z:=ops.size - 1) (fun aH=>(qR aH).symm) iY WU TK
  (fun ax hs nP hzr j hj hjz=>by
   obtain⟨-,o,ho,age⟩:=mem_ready.1 hzr
   grind [my,jD]) (fun j hj=>by have:=of_decide_eq_true (QJ.1 hMM j hj);exact⟨by omega,by omega⟩) (by omega)
  (fun i o ho hi=>by
   have Av:i<ops.size:=(Qm.1 ho).1;have hi3:i<ops.size - 1:=by omega
   have:=hO i o _ (ako i o ho hi);rw[Nat.zero_add] at this;simp only[if_pos hi3];refine⟨this.1,fun aH w hG hF hA=>this.2 aH w hG (ux fun x hx=>?_) hA⟩
   grind)
  (fun aH w hG h1 hA=>hE aH w hG (ux fun x hx=>by
   grind) (hA _))
 have e0:a=fr (fun k=>match ops.toList[k]? with | some o=>held a o | none=>undef):=by
  grind [yZ]
 have oe:∀ j,(QE ops.size false).getD j false=false:=fun j=>by
  rcases QO j (QE ops.size false).size with q | q
  ·simp only[Array.size_replicate] at q
   simp[q]
  all_goals grind
 have:=Xj ops.size (QE ops.size false) (fun k=>match ops.toList[k]? with | some o=>held a o | none=>undef) w.drew (by simp) (Qe (List.countP_le_length) (by simp))
  (fun j _ _ hj=>by grind) (oe _) (fun j hj=>by grind) (fun j _ hj=>by grind) (fun i _ j _ _ hj=>by grind) hG
 rw[<-e0] at this;exact this
theorem pJ {i:Nat} {rest:List (Oper × List Nat)} {L:List (Value->World->Prop)} {o:Oper} {d:List Nat} (p:Value->World->Prop) (ho:ops[i]?=some o) (hi:M.contains i=false) (hp:Calm p)
  (h:∀ aH w,ag [] w0 w->fJ L aH w d->kp d M aH->Region.wanted o (yielded ops (fr aH).tmps)=true /\
   ∀ K:Act->World->Prop,Shut (∀ v w',p v w'->ag [] w w'->K ((fr aH).put o.dst v) w')->o.wp P (fr aH) w K Q)
  (hn:nW P ops Q w0 fr z fin M (L++[p]) (i+1) rest):nW P ops Q w0 fr z fin M L i ((o,d) :: rest):=by
 refine⟨p,⟨hp,fun aH w hG hF hA=>?_⟩,hn⟩;obtain⟨h1,h2⟩:=h aH w hG hF hA;unfold wpOp;simp only[ho,h1,if_true];exact .inl (h2 _ (fun v w' a b=>⟨v,rfl,a,b,fun q=>absurd (List.contains_iff_mem.2 q) (by grind)⟩))
theorem yp {i:Nat} {rest:List (Oper × List Nat)} {L:List (Value->World->Prop)} {o:Oper} {d:List Nat} (p:Value->World->Prop) (ho:ops[i]?=some o) (hp:Calm p)
  (h:∀ aH w,ag [] w0 w->fJ L aH w d->kp d M aH->Region.wanted o (yielded ops (fr aH).tmps)=true /\
   ∀ K:Act->World->Prop,Shut (∀ v w',p v w'->ag [] w w'->PI v w w'->K ((fr aH).put o.dst v) w')->o.wp P (fr aH) w K Q)
  (hn:nW P ops Q w0 fr z fin M (L++[p]) (i+1) rest):nW P ops Q w0 fr z fin M L i ((o,d) :: rest):=by
 refine⟨p,⟨hp,fun aH w hG hF hA=>?_⟩,hn⟩;obtain⟨h1,h2⟩:=h aH w hG hF hA;unfold wpOp;simp only[ho,h1,if_true];exact .inl (h2 _ (fun v w' a b c=>⟨v,rfl,a,b,fun _=>c⟩))
theorem fY {i:Nat} {rest:List (Oper × List Nat)} {L:List (Value->World->Prop)} {o:Oper} {d:List Nat} {c:Value} (ho:ops[i]?=some o) (hi:M.contains i=false)
  (h:∀ aH w,ag [] w0 w->fJ L aH w d->kp d M aH->Region.wanted o (yielded ops (fr aH).tmps)=true/\(execOp (fr aH).eval o).run P w=.ok (.value c) w)
  (hn:nW P ops Q w0 fr z fin M (L++[fun v _=>v=c]) (i+1) rest):nW P ops Q w0 fr z fin M L i ((o,d) :: rest):=by
 refine⟨fun v _=>v=c,⟨fun _ _ _ _ q=>q,fun aH w hG hF hA=>?_⟩,hn⟩;obtain⟨h1,h2⟩:=h aH w hG hF hA;unfold wpOp;simp only[ho,h1,if_true,Oper.wp,h2,Oper.upon]
 grind [ag.refl]
theorem Ep {i:Nat} {L:List (Value->World->Prop)} {o:Oper} (ho:ops[z]?=some o)
  (h:∀ aH w,ag [] w0 w->fJ L aH w fin->kp fin M aH->Region.wanted o (yielded ops (fr aH).tmps)=true /\
   ∀ K:Act->World->Prop,Shut (∀ a' w',Q .normal a' w'->K a' w')->o.wp P (fr aH) w K Q):nW P ops Q w0 fr z fin M L i []:=by
 intro aH w hG hF hA;obtain⟨h1,h2⟩:=h aH w hG hF hA;unfold wpOp;simp only[ho,h1,if_true];exact .inl (h2 _ (fun a' w' q=>q))
end
end Go.Proofs.YtoiflofhcmjpoaaGreat
-- READS ONLY
namespace Go.Proofs.YtoiflofhcmjpoaaGreat
open Go.RowKit Go.Maps
theorem qd {t e:TypeId} {z:Value} {size bytes:Nat} (E:nh t e z size bytes) {o:Oper} {a:Act} {Q:Exit->Act->World->Prop} {K:Act->World->Prop} {w:World} (l c:Operand) (jM:o.op=Op.makeSlice t l c) {B n:Nat} (hl:a.eval l=.int .i64 n) (hc:a.eval c=.int .i64 n) (hB:B<=w.heap.size) (hn:n<68719476736)
  (hK:∀ w',w'.ownsRow B e size (.slice (some ⟨w.heap.size,0,none⟩) n n) n (madeCells z.cells (n*size)).toList->ag [] w w'->K (a.put o.dst (.slice (some ⟨w.heap.size,0,none⟩) n n)) w'):Oper.wp Tryz.prog o a w K Q:=by
 obtain⟨i0,hi,y9,jq,nO⟩:=info_parts E.hi;have hb:=E.hb;obtain⟨w',fS,r1,r2⟩:=run_make_full (P:=Tryz.prog) w B t e i0 z size E.ht hi y9 jq .i64 .i64 n (by
  rw[nO];exact Qe (Nat.mul_le_mul_right _ hb) (by omega)) (by unfold maxLen;omega) hB
 unfold Oper.wp;simp[execOp,jM,hl,hc,fS,Result.andThen];exact hK w' r1 ((ag.refl _ _).grown r2 (by simp))
theorem kI {w:World} {B n sz g cap q:Nat} {e:TypeId} {xs:List Value} {cs:List Cell} {l:List Int} {x:Int} (h:bu w B e sz (.slice (some ⟨g,0,none⟩) n cap) n xs cs) (he:e≠3) (hB:B<=w.heap.size) (hq:q<xs.length) (hc:cs[q]?=some (.row l)) (hx:aU x) (hn:l.length+1<4294967296) :
  ∃ va vc mg l8 w2,w.cell? ⟨g,q,none⟩=some (.slice va l.length vc)/\(Builtin.append_ #[25,25] 25 #[.slice va l.length vc,.slice (some ⟨w.heap.size,0,none⟩) 1 1]).run Tryz.prog (w.alloc (.cells #[.int .i64 x] 3))=.ok (.slice mg (l.length+1) l8) w2 /\
   w2.cell? ⟨g,q,none⟩=some (.slice va l.length vc)/\w2.frozen? ⟨g,q,none⟩=false /\
   bu (w2.setCell ⟨g,q,none⟩ (.slice mg (l.length+1) l8)) B e sz (.slice (some ⟨g,0,none⟩) n cap) n (xs.set q (.slice mg (l.length+1) l8)) (cs.set q (.row (l++[x]))) /\
   (∀ b∈aE (.slice mg (l.length+1) l8),b∈aE (.slice va l.length vc)\/w.heap.size<=b)/\xs.getD q undef=.slice va l.length vc/\ag (g :: aE (.slice va l.length vc)) w (w2.setCell ⟨g,q,none⟩ (.slice mg (l.length+1) l8))/\ag (aE (.slice va l.length vc)) w w2/\g ∉ aE (.slice va l.length vc)/\∀ (b:Nat) (cs:Array Value) (t:TypeId) (r:Nat × Nat),w.heap[b]?=some (.cells cs t r)->t≠3->b ∉ aE (.slice va l.length vc):=by
 have aJ:=h.row hc;obtain⟨va,vc,ev⟩:=aJ.shape;have aK:=h.cell hq;rw[ev] at aK aJ;have ca:ag [] w (w.alloc (.cells #[.int .i64 x] 3)):=(ag.refl _ _).alloc _;obtain⟨v',w2,hr,r1,r2,r3⟩:=gD (aJ.aD ca (by simp)) (fT w hx) (Qe hB ca.size) (by simp;omega) 25;obtain⟨mg,l8,ev'⟩:=r1.shape;rw[show (l++[x]).length=l.length+1 by simp] at ev';subst ev';have bA:ag (aE (.slice va l.length vc)) w w2:=(ca.mono (by simp)).trans r2 (fun j hj=>QA hj);have Ya:g ∉ aE (.slice va l.length vc):=fun em=>by
  obtain⟨AM,r,hh⟩:=bR aJ g em;rcases h.out.2 with ⟨q,_⟩ | ⟨g',c',cur,q,_,hg,_⟩
  ·cases q
  simp only[Qc.injEq,Qt.injEq,Addr.mk.injEq] at q;obtain⟨⟨rfl,-⟩,-⟩:=q;rw[hg] at hh;simp at hh;exact he hh.2.1
 have oZ:=bA.cell aK Ya;have uO:=h.put (v:=.slice mg (l.length+1) l8) (m:=l++[x]) he hq hc r1 (by rw[ev];exact bA) (fun b hb=>by
  rw[ev];rcases r3 b hb with t | t
  ·exact QA t
  exact QN (Qe ca.size t))
 have hgh:∃ cur,w.heap[g]?=some (.cells cur e (0,0)):=by
  rcases h.out.2 with ⟨q,_⟩ | ⟨g',c',cur,q,hb,hg,_⟩
  ·cases q
  simp only[Qc.injEq,Qt.injEq,Addr.mk.injEq] at q;obtain⟨⟨rfl,-⟩,-⟩:=q;exact⟨_,hg⟩
 obtain⟨cur,hg⟩:=hgh;have Cz:=bA.heap hg Ya;have aZ:ag [g] w2 (w2.setCell ⟨g,q,none⟩ (.slice mg (l.length+1) l8)):=(ag.refl _ _).setCell (QA (by simp)) _;exact⟨va,vc,mg,l8,w2,aK,hr,oZ,by simp[World.frozen?,Cz],uO,fun b hb=>(r3 b hb).imp id fun t=>Qe ca.size t,ev,(bA.mono (fun j hj=>QA (by simp[hj]))).trans aZ (fun j hj=>QA (by simp at hj;simp[hj])),bA,Ya,fun b cs t r hb ht hm=>by
  obtain⟨AM,r',hh⟩:=bR aJ b hm;rw[hb] at hh;simp at hh;exact ht hh.2.1⟩
theorem aci {w w':World} {b:Nat} {o:Obj} (hc:ag [] w w') (h:w.heap[b]?=some o):w'.heap[b]?=some o:=hc.hp h
theorem nD {w:World} {B fb n:Nat} (h:w.ownsRow B 25 1 (.slice (some ⟨fb,0,none⟩) n n) n (madeCells (Qc none 0 0).cells (n*1)).toList):bu w B 25 1 (.slice (some ⟨fb,0,none⟩) n n) n (Qh n (.slice none 0 0)) (Qh n (.row [])):=by
 have e1:(madeCells (Qc none 0 0).cells (n*1)).toList=Qh n (.slice none 0 0):=by
  show (madeCells #[Qc none 0 0] (n*1)).toList=_;rw[Nat.mul_one,toList_madeCells_one]
 rw[e1] at h;have hv:∀ k,k<n->(Qh n (Qc none 0 0)).getD k undef=.slice none 0 0:=fun k hk=>by simp[QI,hk]
 refine⟨h,by simp,by simp,fun k c hk=>?_,fun k l hk _ _=>QA ?_⟩
 ·obtain⟨h1,h2⟩:=List.getElem?_eq_some_iff.1 hk
  rw[Qr] at h1;rw[List.getElem_replicate] at h2;rw[hv k h1,<-h2];exact tY w B
 rw[Qr] at hk;rw[hv k hk];rfl
theorem rG {g:Plain.Gr} {p:Plain.Pt} {N k a:Nat} {d:Int} (hk:k<p.ah.length) (hd:p.ah.getD k 0=d) (ha:g.tail d=a) :
  ((Ql N).map fun v:Nat=>Cell.row (Plain.bG g p v k)).set a (.row (Plain.bG g p a k++[d]))=(Ql N).map fun v:Nat=>Cell.row (Plain.bG g p v (k+1)):=by
 refine List.ext_getElem (by simp) fun i h1 h2=>?_;rw[List.getElem_set];simp only[List.getElem_map,List.getElem_range];rw[Plain.pq hk,hd,ha];by_cases e:a=i
 ·subst e
  rw[if_pos rfl,if_pos rfl]
 rw[if_neg e,if_neg (by omega)]
theorem Hm {a:Nat} {xs:List Value} {v v':Value} {w:World} {B:Nat} (Tj:∀ k b,k<xs.length->(xs.getD k undef).ownBlock=some b->B<=b) (ha:a<xs.length) (hv:xs.getD a undef=v) (hf:∀ b∈aE v',b∈aE v\/w.heap.size<=b) (h1:aE v'=v'.ownBlock.toList) (h2:aE v=v.ownBlock.toList) (hB:B<=w.heap.size) :
  ∀ k b,k<(xs.set a v').length->((xs.set a v').getD k undef).ownBlock=some b->B<=b:=fun k b hk hb=>by
 rw[List.length_set] at hk;rw[dM _ _ _ _ _ ha] at hb;by_cases e:k=a
 ·rw[if_pos e] at hb
  rcases hf b (by rw[h1,hb];simp) with q | q
  ·refine Tj a b ha ?_
   rw[hv];rw[h2] at q;simpa using q
  omega
 rw[if_neg e] at hb;exact Tj k b hk hb
theorem GH (n:Nat):((Ql n).map fun i:Nat=>(fun _:Int=>(0:Int)) i)=Qh n 0:=by
 rw[QL];simp
theorem vW (f:Int->Bool):∀ D:List Int,(D.filter f).length+(D.filter fun d=>!f d).length=D.length
 | []=>rfl
 | d :: D=>by
  have ih:=vW f D;cases h:f d <;> simp[h] <;> omega
theorem eT {l:List Int} {n:Int} (h:Plain.gh l n=true):l.length<=n.toNat:=by
 have h1:=Plain.bS (l:=l) (m:=(Ql n.toNat).map fun i:Nat=>(i:Int)) (Plain.iK h) fun x hx=>by
  obtain⟨i,hi,rfl⟩:=Plain.bN hx;have:=Plain.bX h hi;exact List.mem_map.2 ⟨(l.getD i 0).toNat,QM.2 (by omega),by omega⟩
 simpa using h1
theorem yv {g:Plain.Gr} {p:Plain.Pt}:∀ {l:List Int} {D:List Int},l.Nodup->(l.map fun u=>(D.filter fun d=>decide (g.tail d=u)).length+1).sum<=D.length+l.length
 | [],D,_=>by simp
 | u :: l,D,hn=>by
  rw[List.nodup_cons] at hn;have h1:(l.map fun v=>(D.filter fun d=>decide (g.tail d=v)).length+1)=l.map fun v=>((D.filter fun d=>!decide (g.tail d=u)).filter fun d=>decide (g.tail d=v)).length+1:=by
   refine List.map_congr_left fun v hv=>?_
   congr 2
   rw[List.filter_filter];refine List.filter_congr fun d _=>?_;by_cases e:g.tail d=v
   ·have:g.tail d≠u:=fun q=>hn.1 (by rw[<-q,e];exact hv)
    have h2:v≠u:=fun q=>this (e.trans q);simp[e,h2]
   simp[e]
  have h2:=yv (g:=g) (p:=p) (l:=l) (D:=D.filter fun d=>!decide (g.tail d=u)) hn.2;have h3:(D.filter fun d=>decide (g.tail d=u)).length+(D.filter fun d=>!decide (g.tail d=u)).length=D.length:=vW _ D;rw[List.map_cons,List.sum_cons,h1,List.length_cons];omega
theorem Jl {g:Plain.Gr} {p:Plain.Pt} (h:p.err g=0):Plain.vJ g p Plain.dI.zero<=10000:=by
 have hk:=Plain.Pt.ay h;obtain⟨jq,nO,hz3,-⟩:=Plain.Pt.aA h;obtain⟨XP,hz5,hz6,-⟩:=Plain.Gr.aA jq;unfold Plain.vJ Plain.aF;have e:(p.v.filter fun u=>decide (Plain.dI.zero.met u=0))=p.v:=List.filter_eq_self.2 fun _ _=>rfl;rw[e];have h1:=yv (g:=g) (p:=p) (D:=p.ah) hk.vn;have h2:=Plain.bL p;have h3:=eT nO;have h4:=eT hz3;omega
set_option maxRecDepth 100000 in
set_option maxHeartbeats 4000000 in
theorem J5 (vg vp:Value) (g:Plain.Gr) (p:Plain.Pt) (w:World) (N:Nat) (hN:g.n=N) (dm:p.err g=0) (hg:dJ w vg g) (hp:fL w vp p) :
  Calls Tryz.prog 77 #[vg,vp] w fun e w'=>∃ k ev m F,e=.returned (.pointer (some ⟨k.pb,0,none⟩))/\k.n=N/\cX k g w' (Plain.findAll g p) ev m F/\m+(Plain.findAll g p).ed.length<=100000/\k.Ok/\w.heap.size<=k.w0.heap.size/\(∀ j∈k.own,w.heap.size<=j)/\ag [] w w':=by
 have qH:=lh hN;have iL:=Plain.Pt.ay dm;obtain⟨jq,nO,hz3,-⟩:=Plain.Pt.aA dm;obtain⟨XP,hz5,hz6,-⟩:=Plain.Gr.aA jq;have hN1:N<=1024:=by omega
 have hse:g.e.length<=1024:=by omega
 have hhe:∀ e∈p.e,e<g.e.length:=fun e he=>(Plain.Pt.tj dm he).2;have GX:=lh dm;have aaZ:=lh (show Plain.vJ g p Plain.dI.zero<=10000 from Jl dm);clear hN jq nO hz3 XP hz5 hz6 dm;obtain⟨eo,cap,ao,ac,bo,bc,rfl,rfl,HG,HP,hm,DA,sQ,Bq,uE,S4,Ko,b8,dh⟩:=lN hg hp;clear hg hp;obtain⟨x0,x1,y0,y1,dj⟩:=dh.out _ (ag.refl _ _)
 go_enter Tryz.func77,Tryz.ntmps77
 go_wp2_with fail
 obtain⟨w1,qK⟩:∃ w1,((w.alloc (.cells #[.int .i64 g.n,.slice eo g.e.length cap] 24)).alloc (.cells #[.slice ao p.v.length ac,.slice bo p.e.length bc] 27))=w1:=⟨_,rfl⟩;rw[qK] at b8 dh ⊢;clear qK x0 x1 y0 y1 dj;obtain⟨x0,x1,y0,y1,dj⟩:=dh.out w1 (ag.refl _ _);refine s5 (w0:=w1) [[],[],[1],[2],[],[4],[5],[],[7],[8],[],[0,3,6,9,10],[11]] [12] [6,9] (by kernel_rfl) (by kernel_rfl) (by kernel_rfl) (ag.refl [] w1).drew ?_
 (intro fr qR;simp only[iF,Qo,Qn,Qw,Qx,Nat.reduceAdd] at qR;obtain rfl:=funext (fun aH=>(qR aH).symm);clear qR;simp only[List.dropLast,List.zip_cons_cons,List.zip_nil_right])
 refine fY (c:=.agg #[.int .i64 g.n,.slice eo g.e.length cap]) rfl (by rfl) (fun aH w' hG hF hA=>⟨by rfl,by have q0:=hG.dp x0;have q1:=hG.dp x1;go_simp⟩) ?_;refine fY (c:=.pointer (some ⟨w.heap.size,0,none⟩)) rfl (by rfl) (fun aH w' hG hF hA=>⟨by rfl,by go_simp⟩) ?_;refine fY (c:=.int .i64 g.n) rfl (by rfl) (fun aH w' hG hF hA=>⟨by rfl,by simp only[fJ,Qf,Qd,Qa,Qb,and_true] at hF;have q0:=hG.dp x0;simp only[hF];go_simp⟩) ?_;refine pJ (fun v w=>∃ b,v=.slice (some ⟨b,0,none⟩) N N/\w.ownsRow w1.heap.size 25 1 (.slice (some ⟨b,0,none⟩) N N) N (madeCells (Qc none 0 0).cells (N*1)).toList) rfl (by rfl) (fun u w w' hc ⟨b,e,h⟩=>⟨b,e,aY h hc (by simp)⟩) (fun aH w' hG hF hA=>⟨by rfl,fun K hK=>by
  simp only[fJ,Qf,Qd,Qa,Qb,and_true] at hF;refine qd ji _ _ rfl (B:=w1.heap.size) (n:=N) (by show aH 2=_;rw[hF,qH.out]) (by show aH 2=_;rw[hF,qH.out]) hG.size (by omega) fun w2 h2 bA=>?_;exact hK.out _ _ ⟨_,rfl,h2⟩ bA⟩) ?_
 refine fY (c:=.pointer (some ⟨w.heap.size,0,none⟩)) rfl (by rfl) (fun aH w' hG hF hA=>⟨by rfl,by go_simp⟩) ?_;refine fY (c:=.int .i64 g.n) rfl (by rfl) (fun aH w' hG hF hA=>⟨by rfl,by simp only[fJ,Qf,Qd,Qa,Qb,and_true] at hF;have q0:=hG.dp x0;simp only[hF];go_simp⟩) ?_;refine yp (fun v w=>∃ b,v=.slice (some ⟨b,0,none⟩) N N/\w1.heap.size<=b/\iS w b N fun _=>0) rfl (fun u w w' hc ⟨b,e,hb,h⟩=>⟨b,e,hb,h.aD hc (by simp)⟩) (fun aH w' hG hF hA=>⟨by rfl,fun K hK=>by
  simp only[fJ,Qf,Qd,Qa,Qb,and_true] at hF;refine qd bW _ _ rfl (B:=0) (n:=N) (by show aH 5=_;rw[hF,qH.out]) (by show aH 5=_;rw[hF,qH.out]) (QG _) (by omega) fun w2 h2 bA=>?_;exact hK.out _ _ ⟨_,rfl,hG.size,by unfold iS;rw[GH];exact pn h2 (by omega)⟩ bA (fun b hb=>by
   have e:w'.heap.size=b:=by simpa[Qp] using hb
   have:=nB h2 (b:=b) (by simp[Qp,e]);omega)⟩) ?_
 refine fY (c:=.pointer (some ⟨w.heap.size,0,none⟩)) rfl (by rfl) (fun aH w' hG hF hA=>⟨by rfl,by go_simp⟩) ?_;refine fY (c:=.int .i64 g.n) rfl (by rfl) (fun aH w' hG hF hA=>⟨by rfl,by simp only[fJ,Qf,Qd,Qa,Qb,and_true] at hF;have q0:=hG.dp x0;simp only[hF];go_simp⟩) ?_;refine yp (fun v w=>∃ b,v=.slice (some ⟨b,0,none⟩) N N/\w1.heap.size<=b/\iS w b N fun _=>0) rfl (fun u w w' hc ⟨b,e,hb,h⟩=>⟨b,e,hb,h.aD hc (by simp)⟩) (fun aH w' hG hF hA=>⟨by rfl,fun K hK=>by
  simp only[fJ,Qf,Qd,Qa,Qb,and_true] at hF;refine qd bW _ _ rfl (B:=0) (n:=N) (by show aH 8=_;rw[hF,qH.out]) (by show aH 8=_;rw[hF,qH.out]) (QG _) (by omega) fun w2 h2 bA=>?_;exact hK.out _ _ ⟨_,rfl,hG.size,by unfold iS;rw[GH];exact pn h2 (by omega)⟩ bA (fun b hb=>by
   have e:w'.heap.size=b:=by simpa[Qp] using hb
   have:=nB h2 (b:=b) (by simp[Qp,e]);omega)⟩) ?_
 refine pJ (fun v w=>∃ b,v=.map (some b)/\w1.heap.size<=b/\ic w b 0 fun _=>none) rfl (by rfl) (fun u w w' hc ⟨b,e,hb,h⟩=>⟨b,e,hb,h.aD hc (by simp)⟩) (fun aH w' hG hF hA=>⟨by rfl,fun K hK=>by
  have mY:=@run_makeMap Tryz.prog;go_simp;exact hK.out _ _ ⟨_,rfl,hG.size,ic.made w'⟩ ((ag.refl _ _).alloc _)⟩) ?_
 refine pJ (fun v w=>∃ db mb lb mp,v=.agg #[.int .i64 g.n,.slice eo g.e.length cap,.slice (some ⟨db,0,none⟩) N N,.slice (some ⟨mb,0,none⟩) N N,.slice (some ⟨lb,0,none⟩) N N,.int .i64 0,.slice none 0 0,.map (some mp)] /\
   w.ownsRow w1.heap.size 25 1 (.slice (some ⟨db,0,none⟩) N N) N (madeCells (Qc none 0 0).cells (N*1)).toList/\(w1.heap.size<=mb/\iS w mb N fun _=>0)/\(w1.heap.size<=lb/\iS w lb N fun _=>0)/\(w1.heap.size<=mp/\ic w mp 0 fun _=>none)/\mb≠lb) rfl (by rfl)
  (fun u w w' hc ⟨db,mb,lb,mp,e,h1,h2,h3,h4,h5⟩=>⟨db,mb,lb,mp,e,aY h1 hc (by simp),⟨h2.1,h2.2.aD hc (by simp)⟩,⟨h3.1,h3.2.aD hc (by simp)⟩,⟨h4.1,h4.2.aD hc (by simp)⟩,h5⟩) (fun aH w' hG hF hA=>⟨by rfl,fun K hK=>by
  simp only[fJ,Qf,Qd,Qa,Qb,and_true] at hF;obtain⟨e0,⟨db,e3,h3⟩,⟨mb,e6,h6⟩,⟨lb,e9,h9⟩,⟨mp,e10,h10⟩⟩:=hF;have bh:mb≠lb:=fun q=>hA 6 (by simp) 9 (by simp) (by simp) (by simp) (by simp) mb (by rw[e6];rfl) (by rw[e9,q];rfl);simp only[e0,e3,e6,e9,e10] at hK ⊢;go_simp;exact hK.out _ _ ⟨db,mb,lb,mp,rfl,h3,h6,h9,h10,bh⟩ (ag.refl _ _)⟩) ?_
 refine pJ (fun v w=>∃ pb db mb lb mp,v=.pointer (some ⟨pb,0,none⟩)/\w1.heap.size<=pb/\w.heap[pb]?=some (.cells #[.int .i64 g.n,.slice eo g.e.length cap,.slice (some ⟨db,0,none⟩) N N,.slice (some ⟨mb,0,none⟩) N N,.slice (some ⟨lb,0,none⟩) N N,.int .i64 0,.slice none 0 0,.map (some mp)] 99 (0,0)) /\
   w.ownsRow w1.heap.size 25 1 (.slice (some ⟨db,0,none⟩) N N) N (madeCells (Qc none 0 0).cells (N*1)).toList/\(w1.heap.size<=mb/\iS w mb N fun _=>0)/\(w1.heap.size<=lb/\iS w lb N fun _=>0)/\(w1.heap.size<=mp/\ic w mp 0 fun _=>none)/\mb≠lb) rfl (by rfl)
  (fun u w w' hc ⟨pb,db,mb,lb,mp,e,hb,hr,h1,h2,h3,h4,h5⟩=>⟨pb,db,mb,lb,mp,e,hb,aci hc hr,aY h1 hc (by simp),⟨h2.1,h2.2.aD hc (by simp)⟩,⟨h3.1,h3.2.aD hc (by simp)⟩,⟨h4.1,h4.2.aD hc (by simp)⟩,h5⟩) (fun aH w' hG hF hA=>⟨by rfl,fun K hK=>by
  simp only[fJ,Qf,Qd,Qa,Qb,and_true] at hF;obtain⟨db,mb,lb,mp,e,h1,h2,h3,h4,h5⟩:=hF;simp only[e] at hK ⊢;go_simp;have hc:=(ag.refl [] w').alloc (.cells #[.int .i64 g.n,.slice eo g.e.length cap,.slice (some ⟨db,0,none⟩) N N,.slice (some ⟨mb,0,none⟩) N N,.slice (some ⟨lb,0,none⟩) N N,.int .i64 0,.slice none 0 0,.map (some mp)] 99);exact hK.out _ _ ⟨_,db,mb,lb,mp,rfl,hG.size,G' _ _,aY h1 hc (by simp),⟨h2.1,h2.2.aD hc (by simp)⟩,⟨h3.1,h3.2.aD hc (by simp)⟩,⟨h4.1,h4.2.aD hc (by simp)⟩,h5⟩ hc⟩) ?_
 refine Ep rfl (fun aH w2 hG hF hA=>⟨by rfl,fun K hK=>?_⟩);simp only[fJ,Qf,Qd,Qa,Qb,and_true] at hF;obtain⟨pb,db,mb,lb,mp,e,ph,aJ,mj,⟨AQ,wS⟩,⟨Le,fX⟩,⟨EH,oB⟩,nI⟩:=hF;simp only[e] at hK ⊢;go_simp;refine hK.out _ _ ?_;clear hK K;have bt:=lh aJ;have UQ:=lh mj;have aa5:=lh wS;have tV:=lh fX;have Sw:=lh oB;have wC:=lh nI;have FM:=lh hG;have acB:=lh (show w.heap.size+2<=db from Qe dj (mj.lt db rfl).1);obtain⟨z0,z1,y0,y1,aaX⟩:=dh.out w2 hG;clear aJ mj wS fX oB nI e hA hG x0 x1 dj;generalize aH 0=u0;generalize aH 1=u1;generalize aH 2=u2;generalize aH 3=u3;generalize aH 4=u4;generalize aH 5=u5;generalize aH 6=u6;generalize aH 7=u7;generalize aH 8=u8;generalize aH 9=u9;generalize aH 10=u10;generalize aH 11=u11
 go_wp2_with fail
 have HZ0:=lh z0;have WT:=lh z1;have HY0:=lh y0;have HY1:=lh y1;have wV:=lh aaX;clear z0 z1 y0 y1 aaX
 go_loopw [7,8,9,28] (fun _ _ _ iv wr=>∃ i:Nat,i<=p.e.length/\iv=.int .i64 i/\∃ xs,bu wr w1.heap.size 25 1 (.slice (some ⟨db,0,none⟩) N N) N xs ((Ql N).map fun v:Nat=>Cell.row (Plain.bG g p v (2*i)))/\(∀ k b,k<xs.length->(xs.getD k undef).ownBlock=some b->w2.heap.size<=b)/\ag [db] w2 wr) (fun _ _ _ iv _=>((p.e.length:Int) - intOf iv).toNat)
 case atStart =>
  refine⟨0,QG _,rfl,Qh N (.slice none 0 0),?_,fun k b hk hb=>?_,ag.refl _ _⟩
  ·have h1:=nD UQ.out
   rw[show ((Ql N).map fun v:Nat=>Cell.row (Plain.bG g p v (2*0)))=Qh N (.row []) by
    rw[Nat.mul_zero];simp only[Plain.lM];rw[QL];simp]
   exact h1
  simp only[Qr] at hk;simp[QI,hk,Qp] at hb
 case round =>
  obtain⟨i,hi,rfl,vs,gG,Tj,vN⟩:=hrel;have lQ:=lh gG;have HLO:=lh Tj;have j9:=lh vN;clear gG Tj;have hw:∀ j,j<=w.heap.size+1->j ∉ [db]:=fun j hj q=>by
   have:=acB.out;rw[Qk] at q;omega
  have y0r:=j9.out.cell HY0.out (hw _ (QP _));have z1r:=j9.out.cell WT.out (hw _ (Nat.le_succ _));by_cases h0:i=p.e.length
  ·subst h0
   have b0:decide ((p.e.length:Int)<(p.e.length:Int))=false:=decide_eq_false (by omega);have Yu:(w2.heap[pb]?=some (.cells #[.int .i64 g.n,.slice eo g.e.length cap,.slice (some ⟨db,0,none⟩) N N,.slice (some ⟨mb,0,none⟩) N N,.slice (some ⟨lb,0,none⟩) N N,.int .i64 0,.slice none 0 0,.map (some mp)] 99 (0,0))):=bt.out;have EZ:∃ cs,w2.heap[db]?=some (.cells cs 25 (0,0)):=by
    rcases UQ.out.2 with ⟨q,_⟩ | ⟨g',c',cur,q,_,XQ,_⟩
    ·cases q
    simp only[Qc.injEq,Qt.injEq,Addr.mk.injEq] at q;obtain⟨⟨rfl,-⟩,-⟩:=q;exact⟨_,XQ⟩
   obtain⟨dcs,EZ⟩:=EZ;obtain⟨mcs,hmk⟩:=aa5.out.kind;obtain⟨lcs,l6⟩:=tV.out.kind;have npd:pb≠db:=fun q=>by rw[q,EZ] at Yu;simp at Yu
   have nmd:mb≠db:=fun q=>by rw[q,EZ] at hmk;simp at hmk
   have nld:lb≠db:=fun q=>by rw[q,EZ] at l6;simp at l6
   have nqd:mp≠db:=fun q=>Sw.out.ne EZ q.symm;have hW0:ag [] w wr:=(b8.out.tr FM.out).trans j9.out (fun j hj=>QN (by rw[Qk] at hj;have:=acB.out;omega));have PZ:=lh (show (FK.mk wr pb mb lb mp N (.slice eo g.e.length cap) (.slice (some ⟨db,0,none⟩) N N)).Ok from⟨fun j hj=>by
    have dj:=j9.out.size;have e1:=lt_of_block Yu;have e2:=lt_of_block hmk;have e3:=lt_of_block l6;have e4:=Sw.out.lt;simp only[FK.own,Qs,QB,or_false] at hj;rcases hj with rfl | rfl | rfl | rfl
    ·exact Qj e1 dj
    ·exact Qj e2 dj
    ·exact Qj e3 dj
    exact Qj e4 dj,wC.out⟩)
   have fD:=lh (show ∀ j∈[pb,mb,lb,mp],w1.heap.size<=j/\j<w2.heap.size from fun j hj=>by
    have e1:=lt_of_block Yu;have e2:=lt_of_block hmk;have e3:=lt_of_block l6;have e4:=Sw.out.lt;simp only[Qs,QB,or_false] at hj;rcases hj with rfl | rfl | rfl | rfl
    ·exact⟨ph,e1⟩
    ·exact⟨AQ,e2⟩
    ·exact⟨Le,e3⟩
    exact⟨EH,e4⟩)
   have KY:=lh (show (FK.mk wr pb mb lb mp N (.slice eo g.e.length cap) (.slice (some ⟨db,0,none⟩) N N)).Has g p from by
    refine⟨qH.out,by show N<=100000;omega,by omega,hhe,HG.out.fresh hW0,fun yk b n c eb q=>?_,db,N,fun v=>vs.getD v undef,rfl,fun q=>?_,fun v (hv:v<N)=>⟨lQ.out.cell (by rw[lQ.out.cells];omega),?_,fun b n c e q=>?_⟩⟩
    ·obtain⟨eo3,akl,e3,-,-,-,mm⟩:=HG.out
     obtain⟨bb,sX,e4,CD,-⟩:=mm 0 yk;simp only[Value.agg.injEq,Array.mk.injEq,List.cons.injEq,true_and,and_true] at e3;rw[e3] at eb;rw[e4] at eb;simp only[Qc.injEq,Qt.injEq] at eb;have aL:=Qi w _ CD;have:=(fD.out _ q).1;have h3:=b8.out.size;rw[<-eb.1] at this;have:w1.heap.size<=bb:=this;have:bb<w.heap.size:=aL;omega
    ·simp only[FK.own,Qs,QB,or_false] at q
     rcases q with q | q | q | q
     ·exact npd q.symm
     ·exact nmd q.symm
     ·exact nld q.symm
     exact nqd q.symm
    ·have hr:=lQ.out.row (k:=v) (l:=Plain.aF g p v) (by
      rw[Qy,Qu hv];simp only[Option.map_some];rw[<-Plain.nk,Plain.bL])
     exact hr.ints
    have h1:=HLO.out v b.block (by rw[lQ.out.cells];omega) (by
     show (vs.getD v undef).ownBlock=_;have e':vs.getD v undef=.slice (some b) n c:=e;rw[e'];rfl)
    have h2:=(fD.out _ q).2;omega)
   have gS:∀ j,j≠db->j ∉ [db]:=fun j h q=>h (Qk.1 q);have OV:=lh (show cX (FK.mk wr pb mb lb mp N (.slice eo g.e.length cap) (.slice (some ⟨db,0,none⟩) N N)) g wr Plain.dI.zero (.slice none 0 0) 0 (fun _=>none) from
    ⟨j9.out.heap Yu (gS _ npd),aa5.out.aD j9.out (gS _ nmd),tV.out.aD j9.out (gS _ nld),tY _ _,Sw.out.aD j9.out (gS _ nqd),⟨by simp[Plain.dI.zero],by simp⟩,ag.refl _ _⟩)
   have TJ:=lh hW0;have Rw:=lh (show w2.heap.size<=wr.heap.size from j9.out.size);have HP0:=lh iL;obtain⟨k,hk⟩:∃ k,FK.mk wr pb mb lb mp N (.slice eo g.e.length cap) (.slice (some ⟨db,0,none⟩) N N)=k:=⟨_,rfl⟩;have hkp:k.pb=pb:=by rw[<-hk]
   have Te:k.n=N:=by rw[<-hk]
   have hkm:k.mb=mb:=by rw[<-hk]
   have hkw:k.w0=wr:=by rw[<-hk]
   have Uj:k.own=[pb,mb,lb,mp]:=by rw[<-hk];rfl
   rw[hk] at PZ KY OV;have z0r:=j9.out.cell HY0.out (hw _ (QP _));have aaO:=lh (show ∀ wx,ag k.own wr wx->wx.cell? ⟨w.heap.size+1,0,none⟩=some (.slice ao p.v.length ac) from fun wx hx=>hx.cell z0r fun q=>by
    rw[Uj] at q;have:=(fD.out _ q).1;have h3:=(dh.out w1 (ag.refl _ _)).2.2.2.2;have:w1.heap.size<=w.heap.size+1:=this;omega)
   have Hw:=lh (show ∀ wx,ag k.own wr wx->∀ i,i<p.v.length->∃ ab xB,ao=some ⟨ab,xB,none⟩/\wx.cell? ⟨ab,xB+i,none⟩=some (.int .i64 (p.v.getD i 0)) from fun wx hx i hi=>by
    obtain⟨ab,xB,e,L8⟩:=Bq.out (fun q=>by rw[q] at hi;simp at hi);have h1:=L8 i hi;refine⟨ab,xB,e,hx.cell (hW0.dp h1) fun q=>?_⟩;rw[Uj] at q;have h2:=(fD.out _ q).1;have h3:=Qi w _ h1;have h4:=b8.out.size;have:ab<w.heap.size:=h3;have:w1.heap.size<=ab:=h2;omega)
   have z0q:=aaO.out wr (ag.refl _ _);have HKP:=lh hkp;have XV:=lh Te;have HKM:=lh hkm;have YZ:=lh hkw;have HKO:=lh Uj;clear hi vN Yu EZ hmk l6 npd nmd nld nqd gS hW0 hk hkp Te hkm hkw Uj z0r
   go_wp2_with fail
   clear z0q;rename World=>wi
   go_loopw [11,83] (fun _ iv wr=>∃ i:Nat,i<=p.v.length/\iv=.int .i64 i/\∃ t,Hid (t=Plain.kO g p p.v.length (p.v.take i) Plain.dI.zero)/\Hid (Plain.KM g p t)/\Fin k g p wr t 0) (fun _ iv _=>((p.v.length:Int) - intOf iv).toNat)
   case atStart=>exact⟨0,QG _,rfl,_,lh rfl,lh Plain.KM.start,_,_,_,OV.out,by have:=aaZ.out;show 0+0+Plain.vJ g p Plain.dI.zero+0<=100000;omega,by have:=aaZ.out;show (0:Int)+Plain.vJ g p Plain.dI.zero<=100000;omega⟩
   case round =>
    obtain⟨i,hi,rfl,t,ht,htp,ev,m,F,hf,nT,jo⟩:=hrel;have Kx:=lh hf;have Jj:=lh (show ag k.own wi wr by have:=hf.aD;rw[YZ.out] at this;exact this);have Dz:=lh nT;have mr:=lh jo;have z0q:=aaO.out wr Jj.out;by_cases h0:i=p.v.length
    ·subst h0
     have b0:decide ((p.v.length:Int)<(p.v.length:Int))=false:=decide_eq_false (by omega);clear hf nT jo hi;go_wp2;go_ret;refine⟨k,ev,m,F,(by rw[HKP.out];rfl),XV.out,?_,?_,PZ.out,?_,fun j hj=>?_,?_⟩
     ·have h1:=Kx.out
      rw[ht.out,QK] at h1;exact h1
     ·have h1:=Dz.out
      rw[ht.out,QK] at h1;show m+(Plain.findAll g p).ed.length<=100000;unfold Plain.findAll;omega
     ·rw[YZ.out];exact TJ.out.size
     ·rw[HKO.out] at hj
      have h1:=(fD.out j hj).1;have h2:=b8.out.size;omega
     refine TJ.out.trans Jj.out fun j hj=>QN ?_;rw[HKO.out] at hj;have h1:=(fD.out j hj).1;have h2:=b8.out.size;omega
    have qP:i<p.v.length:=by omega
    have lA:(i:Int)<(p.v.length:Int):=by omega
    obtain⟨ab,xB,rfl,rX⟩:=Hw.out wr Jj.out i qP;have Ax:p.v.getD i 0∈p.v:=Plain.aQ qP;have Fb:=HP0.out.vr _ Ax;obtain⟨v,hv⟩:∃ v:Nat,p.v.getD i 0=v:=⟨(p.v.getD i 0).toNat,by omega⟩;rw[hv] at rX Ax Fb;have tq:v<N:=by have:=Fb.2;rw[qH.out] at this;omega
    have OR:(v:Int)<(N:Int):=by omega
    have hTK:t.met v=0->_:=fun q=>Plain.KM.step HP0.out htp.out Ax q (n:=p.v.length) (QF _ _);have nL:=lh hTK;have Dq:=lh (show Plain.kO g p p.v.length (p.v.take (i+1)) Plain.dI.zero=if t.met v=0 then Plain.visit g p p.v.length v (-1) t else t by
     rw[List.take_succ_eq_append_getElem qP];unfold Plain.kO;rw[List.foldl_append];have e:p.v[i]=(v:Int):=by rw[<-hv];simp[QI,qP]
     rw[e];have h1:=ht.out;unfold Plain.kO at h1;rw[<-h1];rfl)
    obtain⟨-,-,-,a3,-,-,-,-⟩:=hf.eight;rw[HKP.out,HKM.out,XV.out] at a3;have cm:=hf.met.cell (v:=v) (by rw[XV.out];exact tq);rw[HKM.out] at cm;obtain⟨tm,KX⟩:∃ tm,t.met (v:Int)=tm:=⟨_,rfl⟩;have Br:=lh KX;rw[KX] at cm;have HVM:=lh Ax;clear hf nT jo hv Ax Fb hTK KX h0;by_cases c0:tm=0
    ·have b1:(tm==0)=true:=by simp[c0]
     have hE:Plain.zq g p t [] v (-1):=⟨htp.out.cH,HVM.out,by rw[Br.out];exact c0,QA ⟨rfl,rfl⟩,by rw[htp.out.ed];simp,by rw[htp.out.ed];simp⟩;have hV:=uu k g p PZ.out KY.out HP0.out p.v.length t [] v (-1) 0 wr hE (QF _ _) ⟨ev,m,F,Kx.out,Dz.out,mr.out⟩;rw[HKP.out] at hV;have HV:=lh hV;clear hE hV
     go_wp2_with fail
     refine HV.out.mono ?_;rintro _ w3 ⟨rfl,hv3⟩;have HV3:=lh hv3;clear hv3;go_wp2
     go_roundw
     case rel =>
      have h1:=Dq.out;rw[if_pos (by rw[Br.out];exact c0)] at h1;refine⟨i+1,by omega,by go_num,_,lh h1.symm,lh (nL.out (by rw[Br.out];exact c0)).1,HV3.out⟩
     case measure=>simp[intOf];omega
    have b1:(tm==0)=false:=by simp[c0]
    go_wp2
    go_roundw
    case rel =>
     have h1:=Dq.out;rw[if_neg (by rw[Br.out];exact c0),ht.out] at h1;exact⟨i+1,by omega,by go_num,t,lh (by rw[h1];exact ht.out),htp,ev,m,F,Kx.out,Dz.out,mr.out⟩
    case measure=>simp[intOf];omega
  have qP:i<p.e.length:=by omega
  have lA:(i:Int)<(p.e.length:Int):=by omega
  obtain⟨eb,ast,rfl,Mr⟩:=uE.out (fun q=>by rw[q] at qP;simp at qP);have Vo:=Mr i qP;have lR:=Qi w _ Vo;have abb:=j9.out.cell ((b8.out.tr FM.out).dp Vo) (hw _ (Qz (Qv lR)));have rO:p.e.getD i 0∈p.e:=Plain.aQ qP;obtain⟨en,kD⟩:∃ en:Nat,p.e.getD i 0=en:=⟨(p.e.getD i 0).toNat,by have:=iL.er _ rO;omega⟩;rw[kD] at abb rO;have SR:en<g.e.length:=by have:=hhe _ rO;omega
  obtain⟨eo2,qg,eq2,-,-,-,mm⟩:=HG.out;cases eq2;obtain⟨gb,U2,rfl,ha,hb⟩:=mm en SR;have ED:=Qi w _ ha;have ha2:=j9.out.cell ((b8.out.tr FM.out).dp ha) (hw _ (Qz (Qv ED)));have ff:=j9.out.cell ((b8.out.tr FM.out).dp hb) (hw _ (Qz (Qv ED)));have fR:=iL.ends _ rO;rw[show g.at (en:Int)=g.ends en by simp[Plain.Gr.at]] at fR;obtain⟨a,KV⟩:∃ a:Nat,(g.ends en).1=a:=⟨(g.ends en).1.toNat,by have:=(iL.vr _ fR.1).1;omega⟩;obtain⟨b,heb⟩:∃ b:Nat,(g.ends en).2=b:=⟨(g.ends en).2.toNat,by have:=(iL.vr _ fR.2).1;omega⟩;have haN:a<N:=by have:=(iL.vr _ fR.1).2;rw[KV,qH.out] at this;omega
  have hbN:b<N:=by have:=(iL.vr _ fR.2).2;rw[heb,qH.out] at this;omega
  rw[KV] at ha2;rw[heb] at ff;have HEA:=lh KV;have HEB:=lh heb;have KW:=lh kD;clear Mr Vo mm ha hb KV heb kD fR rO h0;have aqz:(en:Int)<(g.e.length:Int):=by omega
  go_wp2_with fail
  have aW:ag [] wr wr.drew:=(ag.refl [] wr).drew;refine ar (ag [] wr) [0,1,2,3,4,5,6,7,8,9,10,11,12,13] (Way.line [0,1,2,3,4,5,6,7,8,9,10,11,12,13] .done) (by kernel_rfl) (by kernel_rfl) ?_;simp only[Way.line]
  repeat (refine ai (v:=?_) rfl (by rfl) (by rfl) (fun _ _ _ h=>h) aW (fun w' aI=>?_) ?_;rotate_left;(focus (have gB:=aI.c z1r;have gQ:=aI.c ha2;have np:=aI.c ff;clear aI;go_simp;try with_reducible rfl));simp only[Qo,Z1,Z2,Z3,Z4,Z5,Z6])
  refine aC ?_;have NN:=lh (lQ.out.fresh aW);have V8:=HLO;have Ny:=lh (j9.out.tr aW);have hpc:=(cell_of_row w2 pb 2 _ _ _ bt.out).trans (show _=some (Qc (some ⟨db,0,none⟩) N N) from rfl);have EA:=lh (show ∀ wx,ag [db] w2 wx->wx.cell? ⟨pb,2,none⟩=some (.slice (some ⟨db,0,none⟩) N N) from fun wx hx=>hx.cell hpc fun q=>by
   rw[Qk] at q;have q:pb=db:=q;rcases UQ.out.2 with ⟨q2,_⟩ | ⟨g',c',cur,q2,_,XQ,_⟩
   ·cases q2
   simp only[Qc.injEq,Qt.injEq,Addr.mk.injEq] at q2;obtain⟨⟨rfl,-⟩,-⟩:=q2;have h1:=bt.out;rw[q,XQ] at h1;simp at h1)
  have Pe:=lh (show ∀ wx,ag [db] w2 wx->wx.heap[pb]?=some (.cells #[.int .i64 g.n,.slice (some ⟨gb,U2,none⟩) g.e.length cap,.slice (some ⟨db,0,none⟩) N N,.slice (some ⟨mb,0,none⟩) N N,.slice (some ⟨lb,0,none⟩) N N,.int .i64 0,.slice none 0 0,.map (some mp)] 99 (0,0)) from fun wx hx=>hx.heap bt.out fun q=>by
   rw[Qk] at q;rcases UQ.out.2 with ⟨q2,_⟩ | ⟨g',c',cur,q2,_,XQ,_⟩
   ·cases q2
   simp only[Qc.injEq,Qt.injEq,Addr.mk.injEq] at q2;obtain⟨⟨rfl,-⟩,-⟩:=q2;have h1:=bt.out;rw[q,XQ] at h1;simp at h1)
  have zR:p.ah.length=2*p.e.length:=Plain.bL p;have US:=lh (show p.ah.getD (2*i) 0=2*(en:Int) by have:=Plain.lB qP 0 (by omega);rw[KW.out] at this;simpa using this);have HD1:=lh (show p.ah.getD (2*i+1) 0=2*(en:Int)+1 by have:=Plain.lB qP 1 (by omega);rw[KW.out] at this;simpa using this);have HT0:=lh (show g.tail (2*(en:Int))=a by rw[<-HEA.out];have:=(jr g en).1;simpa using this);have DI:=lh (show g.tail (2*(en:Int)+1)=b by rw[<-HEB.out];have:=(kM g en).1;simpa using this);have ki:=lh (show p.e.length<=1024 by have:=eT (Plain.Pt.aA GX.out).2.2.1;omega);have rh:=lh zR;clear aW z1r ha2 ff y0r abb vN zR hpc;generalize wr.drew=wa at *;have ww0:IntKind.i64.wrap (2*(en:Int))=2*(en:Int):=IntWalk.i64_in _ (by omega);have ww1:IntKind.i64.wrap (2*(en:Int)+1)=2*(en:Int)+1:=IntWalk.i64_in _ (by omega);have pc:=EA.out wa Ny.out;have aW:ag [] wa wa.drew:=(ag.refl [] wa).drew;have PQ:=NN.out.cells;obtain⟨va,vc,mg,l8,w3,p1,p2,p3,p4,p5,p6,p7,p8,p9,F9,PT⟩:=kI (q:=a) (x:=2*(en:Int)) (NN.out.fresh aW) (by decide) (Qe (NN.out.out.lt db rfl).1 (Qe (Qv (NN.out.out.lt db rfl).2) aW.size)) (by rw[PQ];show a<N*1;omega) (show _=some (Cell.row (Plain.bG g p a (2*i))) by rw[Qy,Qu haN];rfl) (aU.mk (by omega) (by omega)) (by have h1:=Plain.gx g p a (2*i);have h2:=ki.out;omega);have qG:(Plain.bG g p a (2*i)).length<=2*i:=Plain.gx g p a (2*i);obtain⟨ln,MZ⟩:∃ ln,(Plain.bG g p a (2*i)).length=ln:=⟨_,rfl⟩;have pZ:=lh p2;have SP:=lh (Hm V8.out (by rw[PQ];show a<N*1;omega) p7 p6 rfl rfl (Qe Ny.out.size aW.size));have KO:=lh (show ag [db] w2 _ from (Ny.out.tr aW).trans p8 (fun j hj=>by
   rcases Qs.1 hj with q | q
   ·exact QA (by simp[q])
   refine QN (V8.out a j (by rw[PQ];show a<N*1;omega) ?_);rw[p7];simpa[aE] using q))
  have Km:=lh (show bu _ w1.heap.size 25 1 (.slice (some ⟨db,0,none⟩) N N) N _ ((Ql N).map fun v:Nat=>Cell.row (Plain.bG g p v (2*i+1))) by
   have h1:=rG (g:=g) (p:=p) (N:=N) (k:=2*i) (a:=a) (d:=2*(en:Int)) (by rw[rh.out];omega) US.out HT0.out;rw[<-h1];exact p5)
  have Ow:wa.heap[pb]?=some (.cells #[.int .i64 g.n,.slice (some ⟨gb,U2,none⟩) g.e.length cap,.slice (some ⟨db,0,none⟩) N N,.slice (some ⟨mb,0,none⟩) N N,.slice (some ⟨lb,0,none⟩) N N,.int .i64 0,.slice none 0 0,.map (some mp)] 99 (0,0)):=Pe.out _ Ny.out;have Lm:=PT pb _ _ _ Ow (by decide);rw[MZ] at pZ SP KO Km p1 p3 p9 F9 Lm;have AN:=lh p9;have p1b:wa.cell? ⟨db,a,none⟩=some (.slice va ln vc):=p1;clear p2 p5 p6 p7 p8 p9 PT Ow
  go_wp2_with fail
  have bF:ag (aE (.slice va ln vc)) wa wa.drew:=aW.mono (by simp);refine ar (ag (aE (.slice va ln vc)) wa) [0,1,2,3,4,5,6,7,8,9,10,11,12,13] (Way.line [0,1,2,3,4,5,6,7,8,9,10,11,12,13,14,15,16,17] .done) (by kernel_rfl) (by kernel_rfl) ?_;simp only[Way.line]
  repeat (refine ai (v:=?_) rfl (by rfl) (by rfl) (fun _ _ _ h=>h) bF (fun w' aI=>?_) ?_;rotate_left;(focus (have gB:=aI.cell pc (by first | exact Lm | exact F9);have gQ:=aI.cell p1b (by first | exact Lm | exact F9);clear aI;go_simp;try with_reducible rfl));simp only[Qo,Z1,Z2,Z3,Z4,Z5,Z6])
  refine au rfl (by rfl) (by rfl) (fun K hK=>?_);go_simp;refine hK.out _ _ (fun _=>bF.alloc _) ?_;clear hK K
  try simp only[Qo,Z1,Z2,Z3,Z4,Z5,Z6]
  refine au rfl (by rfl) (by rfl) (fun K hK=>?_);simp only[QH,QC,QD];refine kS (.tmp 55) (.tmp 58) 25 rfl rfl rfl pZ.out ?_;refine hK.out _ _ (fun _=>(aW.mono (by simp)).trans AN.out (fun j hj=>QA hj)) ?_;clear hK K
  try simp only[Qo,Qn,Qw,Qx]
  refine au rfl (by rfl) (by rfl) (fun K hK=>?_);go_simp;refine hK.out _ _ (fun h=>absurd h (Qq.1 (by kernel_rfl))) ?_;clear hK K
  try simp only[Qo,Z1,Z2,Z3,Z4,Z5,Z6]
  refine au rfl (by rfl) (by rfl) (fun K hK=>?_);go_simp;refine hK.out _ _ (fun h=>absurd h (Qq.1 (by kernel_rfl))) ?_;clear hK K
  try simp only[Qo,Z1,Z2,Z3,Z4,Z5,Z6]
  refine aC ?_;generalize (w3.setCell ⟨db,a,none⟩ (.slice mg (ln+1) l8))=wb at *;clear p1 p1b p3 p4 F9 Lm bF AN pZ pc aW qG MZ NN V8 Ny PQ;have pc:=EA.out wb KO.out;have aW:ag [] wb wb.drew:=(ag.refl [] wb).drew;have S0:=Km.out.cells;obtain⟨va,vc,mg,l8,w3,p1,p2,p3,p4,p5,p6,p7,p8,p9,F9,PT⟩:=kI (q:=b) (x:=2*(en:Int)+1) (Km.out.fresh aW) (by decide) (Qe (Km.out.out.lt db rfl).1 (Qe (Qv (Km.out.out.lt db rfl).2) aW.size)) (by rw[S0];show b<N*1;omega) (show _=some (Cell.row (Plain.bG g p b (2*i+1))) by rw[Qy,Qu hbN];rfl) (aU.mk (by omega) (by omega)) (by have h1:=Plain.gx g p b (2*i+1);have h2:=ki.out;omega);have qG:(Plain.bG g p b (2*i+1)).length<=2*i+1:=Plain.gx g p b (2*i+1);obtain⟨ln,MZ⟩:∃ ln,(Plain.bG g p b (2*i+1)).length=ln:=⟨_,rfl⟩;have pZ:=lh p2;have abQ:=lh (Hm SP.out (by rw[S0];show b<N*1;omega) p7 p6 rfl rfl (Qe KO.out.size aW.size));have adZ:=lh (show ag [db] w2 _ from (KO.out.tr aW).trans p8 (fun j hj=>by
   rcases Qs.1 hj with q | q
   ·exact QA (by simp[q])
   refine QN (SP.out b j (by rw[S0];show b<N*1;omega) ?_);rw[p7];simpa[aE] using q))
  have KE:=lh (show bu _ w1.heap.size 25 1 (.slice (some ⟨db,0,none⟩) N N) N _ ((Ql N).map fun v:Nat=>Cell.row (Plain.bG g p v (2*i+1+1))) by
   have h1:=rG (g:=g) (p:=p) (N:=N) (k:=2*i+1) (a:=b) (d:=2*(en:Int)+1) (by rw[rh.out];omega) HD1.out DI.out;rw[<-h1];exact p5)
  have Ow:wb.heap[pb]?=some (.cells #[.int .i64 g.n,.slice (some ⟨gb,U2,none⟩) g.e.length cap,.slice (some ⟨db,0,none⟩) N N,.slice (some ⟨mb,0,none⟩) N N,.slice (some ⟨lb,0,none⟩) N N,.int .i64 0,.slice none 0 0,.map (some mp)] 99 (0,0)):=Pe.out _ KO.out;have Lm:=PT pb _ _ _ Ow (by decide);rw[MZ] at pZ abQ adZ KE p1 p3 p9 F9 Lm;have AN:=lh p9;have p1b:wb.cell? ⟨db,b,none⟩=some (.slice va ln vc):=p1;clear p2 p5 p6 p7 p8 p9 PT Ow
  go_wp2_with fail
  have bF:ag (aE (.slice va ln vc)) wb wb.drew:=aW.mono (by simp);refine ar (ag (aE (.slice va ln vc)) wb) [0,1,2,3,4,5,6,7,8,9,10,11,12,13,14] (Way.line [0,1,2,3,4,5,6,7,8,9,10,11,12,13,14,15,16,17,18] .done) (by kernel_rfl) (by kernel_rfl) ?_;simp only[Way.line]
  repeat (refine ai (v:=?_) rfl (by rfl) (by rfl) (fun _ _ _ h=>h) bF (fun w' aI=>?_) ?_;rotate_left;(focus (have gB:=aI.cell pc (by first | exact Lm | exact F9);have gQ:=aI.cell p1b (by first | exact Lm | exact F9);clear aI;go_simp;try with_reducible rfl));simp only[Qo,Z1,Z2,Z3,Z4,Z5,Z6])
  refine au rfl (by rfl) (by rfl) (fun K hK=>?_);go_simp;refine hK.out _ _ (fun _=>bF.alloc _) ?_;clear hK K
  try simp only[Qo,Z1,Z2,Z3,Z4,Z5,Z6]
  refine au rfl (by rfl) (by rfl) (fun K hK=>?_);simp only[QH,QC,QD];refine kS (.tmp 72) (.tmp 76) 25 rfl rfl rfl pZ.out ?_;refine hK.out _ _ (fun _=>(aW.mono (by simp)).trans AN.out (fun j hj=>QA hj)) ?_;clear hK K
  try simp only[Qo,Qn,Qw,Qx]
  refine au rfl (by rfl) (by rfl) (fun K hK=>?_);go_simp;refine hK.out _ _ (fun h=>absurd h (Qq.1 (by kernel_rfl))) ?_;clear hK K
  try simp only[Qo,Z1,Z2,Z3,Z4,Z5,Z6]
  refine au rfl (by rfl) (by rfl) (fun K hK=>?_);go_simp;refine hK.out _ _ (fun h=>absurd h (Qq.1 (by kernel_rfl))) ?_;clear hK K
  try simp only[Qo,Z1,Z2,Z3,Z4,Z5,Z6]
  refine aC ?_;generalize (w3.setCell ⟨db,b,none⟩ (.slice mg (ln+1) l8))=wc at *;clear p1 p1b p3 p4 F9 Lm bF AN pZ pc aW qG MZ Km SP KO S0;go_wp2
  go_roundw
  case rel=>exact⟨i+1,by omega,by go_num,_,KE.out,abQ.out,adZ.out⟩
  case measure=>simp[intOf];omega
end Go.Proofs.YtoiflofhcmjpoaaGreat
