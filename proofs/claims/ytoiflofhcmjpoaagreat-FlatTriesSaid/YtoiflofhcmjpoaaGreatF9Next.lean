/- package rota: Next of turns: the Gq behind one around its xt. Conditions: turns that are turns, a Gq of the part. -/
import Derived.Test.YtoiflofhcmjpoaaGreatF9SetsD
import Derived.Laws.Bits64
import Derived.RangeFuncNested
import Derived.RangeFuncBound
import Derived.RangeFuncCalls
import Derived.RangeFuncLeaves
import Derived.RangeFuncBox
import Derived.Shelf.Abstract
import Derived.Shelf.AbstractIn
import Derived.Shelf.RegionOpen
import Derived.OwnWalkIn
import Derived.TacticsInMore
import Derived.LoopNIn
import Derived.LoopIn
import Derived.Maps.OwnIn
open List renaming mem_map→Qa,getElem?_cons_succ→Qc,take_succ_eq_append_getElem→Qe,getElem?_append_right→Qf,getElem?_append_left→Qg,length_append→Qh,idxOf_append→Qj,getD→Qk,mem_cons→Ql,pairwise_append→Qm,nodup_cons→Qn,idxOf_lt_length_of_mem→Qo,filter_append→Qp,pairwise_cons→Qq,getElem?_eq_some_iff→Qr,getElem?_eq_getElem→Qs,mem_flatten→Qt,length_eq_zero_iff→Qu,filter_eq_nil_iff→Qv,mem_append→Qw,filter_eq_self→Qx,nodup_append→Qy,length_set→QA,map_cons→QB,map_map→QD
open Nat renaming mod_eq_of_lt→Qb,add_mod_right→Qd
open Go.Value renaming ownBlock→Qi
open Option renaming some→Qz
open Or renaming inl→QC,inr→QE
namespace Go.Proofs.YtoiflofhcmjpoaaGreat
open Go.RowKit Go.Maps
namespace Plain
theorem BR {a b:List Int} (hn:(a++b).Nodup) {x:Int} (hx:x∈a++b):ahead (b++a) x=ahead (a++b) x:=by
 have ZP:(b++a).Nodup:=(List.perm_append_comm.nodup_iff).1 hn;unfold ahead;rw[Qh,Qh];have aaN:∀ y,y∈a->y∈b->False:=λy h1 h2=>(Qy.1 hn).2.2 y h1 y h2 rfl;have ahU:∀ i,i<a.length->(b++a).getD (b.length+i) 0=a.getD i 0:=λi hi=>by simp[Qk,Qf]
 have Ya:∀ i,i<a.length->(a++b).getD i 0=a.getD i 0:=λi hi=>by simp[Qk,Qg hi]
 have agw:∀ i,i<b.length->(b++a).getD i 0=b.getD i 0:=λi hi=>by simp[Qk,Qg hi]
 have X7:∀ i,i<b.length->(a++b).getD (a.length+i) 0=b.getD i 0:=λi hi=>by simp[Qk,Qf]
 rcases Qw.1 hx with h | h
 ·have hb:x ∉ b:=λq=>aaN x h q
  have i1:(b++a).idxOf x=a.idxOf x+b.length:=by rw[Qj,if_neg hb]
  have i2:(a++b).idxOf x=a.idxOf x:=by rw[Qj,if_pos h]
  have hi:=Qo h;rw[i1,i2];by_cases h0:a.idxOf x=0
  ·rw[h0]
   by_cases gZ:b.length=0
   ·have:b=[]:=Qu.1 gZ
    subst this;simp
   rw[show (0+b.length+(b.length+a.length) - 1)=(b.length - 1)+(b.length+a.length) by omega,Qd,Qb (by omega),agw _ (by omega)];rw[show 0+(a.length+b.length) - 1=a.length+(b.length - 1) by omega,Qb (by omega),X7 _ (by omega)]
  rw[show a.idxOf x+b.length+(b.length+a.length) - 1=(b.length+(a.idxOf x - 1))+(b.length+a.length) by omega,Qd,Qb (by omega),ahU _ (by omega)];rw[show a.idxOf x+(a.length+b.length) - 1=(a.idxOf x - 1)+(a.length+b.length) by omega,Qd,Qb (by omega),Ya _ (by omega)]
 have ha:x ∉ a:=λq=>aaN x q h;have i1:(b++a).idxOf x=b.idxOf x:=by rw[Qj,if_pos h]
 have i2:(a++b).idxOf x=b.idxOf x+a.length:=by rw[Qj,if_neg ha]
 have hi:=Qo h;rw[i1,i2];by_cases h0:b.idxOf x=0
 ·rw[h0]
  by_cases Bz:a.length=0
  ·have:a=[]:=Qu.1 Bz
   subst this;simp
  rw[show 0+(b.length+a.length) - 1=b.length+(a.length - 1) by omega,Qb (by omega),ahU _ (by omega)];rw[show (0+a.length+(a.length+b.length) - 1)=(a.length - 1)+(a.length+b.length) by omega,Qd,Qb (by omega),Ya _ (by omega)]
 rw[show b.idxOf x+(b.length+a.length) - 1=(b.idxOf x - 1)+(b.length+a.length) by omega,Qd,Qb (by omega),agw _ (by omega)];rw[show b.idxOf x+a.length+(a.length+b.length) - 1=(a.length+(b.idxOf x - 1))+(a.length+b.length) by omega,Qd,Qb (by omega),X7 _ (by omega)]
end Plain
theorem ql (d:Nat) (hd:d<4294967296):bits .xor .i64 (d:Int) 1=Plain.aH d:=by
 have hx:d ^^^ 1<2 ^ 33:=Nat.xor_lt_two_pow (by omega) (by omega);have h1:(BitVec.ofInt 64 (d:Int)).toNat=d:=by
  grind
 have h3:bits .xor .i64 (d:Int) 1=((d ^^^ 1:Nat):Int):=by
  show IntKind.i64.wrap ((BitVec.ofInt 64 (d:Int) ^^^ BitVec.ofInt 64 1).toNat:Int)=_;rw[BitVec.toNat_xor,h1,show (BitVec.ofInt 64 1).toNat=1 from rfl,IntKind.wrap_i64];omega
 rw[h3];have h4:(d ^^^ 1) / 2=d / 2:=by rw[Nat.xor_div_two];simp
 have h5:(d ^^^ 1) % 2=(d+1) % 2:=by
  have h6:=Nat.xor_mod_two_pow (a:=d) (b:=1) (n:=1)
  grind
 grind [Plain.aH]
end Go.Proofs.YtoiflofhcmjpoaaGreat
namespace Go.Proofs.YtoiflofhcmjpoaaGreat
open Go.RowKit Go.Maps
variable {w w':World} {B B':Nat} {v:Value}
inductive Cell where
 | num (k:Int)
 | row (l:List Int)
def Cell.At (w:World) (B:Nat) (v:Value):Cell->Prop
 | num k=>v=.int .i64 k
 | row l=>aw w B v l
theorem Cell.At.aL {c:Cell} {own:List Nat} (h:c.At w B v) (hc:ai own w w') (hn:∀ b∈v.ownBlock.toList,b ∉ own):c.At w' B v:=by
 cases c with
 | num k=>exact h
 | row l=>exact aw.aL h hc hn
theorem Cell.At.base {c:Cell} (h:c.At w B' v) (hB:B<=B'):c.At w B v:=by
 cases c with
 | num k=>exact h
 | row l=>exact aw.base h hB
theorem Cell.At.low {c:Cell} (h:c.At w B v):∀ b,v.ownBlock=some b->B<=b/\b<w.heap.size/\∃ cs r,w.heap[b]?=some (.cells cs 3 r):=by
 intro b hb;cases c with
 | num k =>
  have h':v=.int .i64 k:=h;rw[h'] at hb;cases hb
 | row l =>
  have h':aw w B v l:=h;have h1:=h'.low b (by grind);exact⟨h1.1,h1.2,bu h' b (by rw[h'.aC,hb];simp)⟩
theorem Cell.At.one {c:Cell} (h:c.At w B v):v.oneCell'=true:=by
 cases c with
 | num k =>
  have h':v=.int .i64 k:=h;rw[h'];rfl
 | row l =>
  obtain⟨ao,cp,e⟩:=aw.shape h;rw[e];rfl
structure bN (w:World) (B:Nat) (e:TypeId) (sz:Nat) (ov:Value) (n:Nat) (xs:List Value) (cs:List Cell):Prop where
 out:w.ownsRow B e sz ov n xs
 len:xs.length=cs.length
 cells:xs.length=n*sz
 fits:∀ (k:Nat) (c:Cell),cs[k]?=some c->c.At w B (xs.getD k undef)
 apart:∀ k l,k<xs.length->l<xs.length->k≠l->(xs.getD k undef).ownBlock=none\/(xs.getD k undef).ownBlock≠(xs.getD l undef).ownBlock
theorem bN.nil (w:World) (B:Nat) (e:TypeId) (sz:Nat):bN w B e sz (.slice none 0 0) 0 [] []:=⟨World.ownsRow_nil _ _ _ _,rfl,by simp,by simp,by simp⟩
section
variable {k b B' g cap:Nat} {α:Type} {l m:List Int}
variable {w w' : World} {B n sz : Nat} {e : TypeId} {ov : Value} {xs : List Value} {cs : List Cell}
theorem bN.fit (h:bN w B e sz ov n xs cs) (hk:k<xs.length):∃ c:Cell,cs[k]?=some c/\c.At w B (xs.getD k undef):=by
 have hk':k<cs.length:=by rw[<-h.len];exact hk
 exact⟨cs[k],Qs hk',h.fits k _ (Qs hk')⟩
theorem bN.kind (h:bN w B e sz ov n xs cs) (hk:k<xs.length) (hb:(xs.getD k undef).ownBlock=some b):B<=b/\b<w.heap.size/\∃ cs r,w.heap[b]?=some (.cells cs 3 r):=by
 obtain⟨c,-,hc⟩:=h.fit hk;exact hc.low b hb
theorem bN.aL {own:List Nat} (h:bN w B e sz ov n xs cs) (hc:ai own w w') (h1:∀ b,ov.ownBlock=some b->b ∉ own) (h2:∀ k b,k<xs.length->(xs.getD k undef).ownBlock=some b->b ∉ own):bN w' B e sz ov n xs cs :=
 ⟨bG h.out hc h1,h.len,h.cells,λk c hk=>(h.fits k c hk).aL hc (λb hb=>h2 k b (by rw[h.len];exact (Qr.1 hk).1) (by simpa using hb)),h.apart⟩
theorem bN.fresh (h:bN w B e sz ov n xs cs) (hc:ai [] w w'):bN w' B e sz ov n xs cs:=h.aL hc (by simp) (by simp)
theorem bN.other {own:List Nat} (h:bN w B e sz ov n xs cs) (hc:ai own w w') (ho:∀ j∈own,(∀ cs t r,w.heap[j]?=some (.cells cs t r)->t≠e/\t≠3)):bN w' B e sz ov n xs cs:=by
 refine h.aL hc (λb hb hm=>?_) (λk b hk hb hm=>?_)
 ·rcases h.out.2 with ⟨rfl,_⟩ | ⟨g,c,cur,rfl,_,hg,_⟩
  ·simp[Qi] at hb
  simp[Qi] at hb;subst hb;exact (ho _ hm _ _ _ hg).1 rfl
 obtain⟨-,-,cs,r,hh⟩:=h.kind hk hb;exact (ho _ hm _ _ _ hh).2 rfl
theorem bN.base (h:bN w B' e sz ov n xs cs) (hB:B<=B'):bN w B e sz ov n xs cs :=
 ⟨kK h.out hB,h.len,h.cells,λk c hk=>(h.fits k c hk).base hB,h.apart⟩
theorem cP {a b:List α} {d:α} (hk:k<a.length):(a++b).getD k d=a.getD k d:=by grind
theorem dS {a b:List α} {d:α} (hk:a.length<=k):(a++b).getD k d=b.getD (k - a.length) d:=by grind
theorem bN.add {us:List Value} {ds:List Cell} (h:bN w B e sz ov n xs cs) (he:e≠3) (hl:us.length=ds.length) (hz:us.length=sz)
  (hu:∀ (k:Nat) (c:Cell),ds[k]?=some c->c.At w B (us.getD k undef)) (UU:∀ k l,k<us.length->l<us.length->k≠l->(us.getD k undef).ownBlock=none\/(us.getD k undef).ownBlock≠(us.getD l undef).ownBlock)
  (fy:∀ k l b,k<xs.length->l<us.length->(xs.getD k undef).ownBlock=some b->(us.getD l undef).ownBlock≠some b)
  (hn:w'.ownsRow B e sz (.slice (some ⟨g,0,none⟩) (n+1) cap) (n+1) (xs++us)) (hc:ai ov.ownBlock.toList w w') :
  bN w' B e sz (.slice (some ⟨g,0,none⟩) (n+1) cap) (n+1) (xs++us) (cs++ds):=by
 have hlen:=h.len;have gV:∀ {v:Value} {c:Cell},c.At w B v->∀ b∈v.ownBlock.toList,b ∉ ov.ownBlock.toList:=by
  intro v c aS b hb hm;obtain⟨-,-,JD,r,hh⟩:=aS.low b (by simpa using hb);rcases h.out.2 with ⟨rfl,_⟩ | ⟨g',c',cur,rfl,_,hg,_⟩
  ·simp[Qi] at hm
  simp[Qi] at hm;subst hm;rw[hg] at hh;simp at hh;exact he hh.2.1
 refine⟨hn,by simp[hlen,hl],by rw[Qh,h.cells,hz,Nat.add_mul,Nat.one_mul],λk c hk=>?_,λk l hk TP bn=>?_⟩
 ·by_cases e1:k<xs.length
  ·rw[cP e1]
   rw[Qg (by omega)] at hk;exact (h.fits k c hk).aL hc (gV (h.fits k c hk))
  rw[dS (by omega)];rw[Qf (by omega)] at hk;rw[hlen];exact (hu _ c hk).aL hc (gV (hu _ c hk))
 rw[Qh] at hk TP;by_cases e1:k<xs.length
 ·rw[cP e1]
  by_cases e2:l<xs.length
  ·rw[cP e2]
   exact h.apart k l e1 e2 bn
  rw[dS (by omega)];cases hq:(xs.getD k undef).ownBlock with
  | none=>exact QC rfl
  | some b=>exact QE (λq=>fy k _ b e1 (by omega) hq q.symm)
 rw[dS (by omega)];by_cases e2:l<xs.length
 ·rw[cP e2]
  cases hq:(us.getD (k - xs.length) undef).ownBlock with
  | none=>exact QC rfl
  | some b=>exact QE (λq=>fy l _ b e2 (by omega) q.symm hq)
 rw[dS (by omega)];exact UU _ _ (by omega) (by omega) (by omega)
theorem eK (l:List α) (i:Nat) (v d:α) (j:Nat) (hi:i<l.length):(l.set i v).getD j d=if j=i then v else l.getD j d:=by
 all_goals grind
theorem bN.put {q:Nat} {v:Value} (h:bN w B e sz (.slice (some ⟨g,0,none⟩) n cap) n xs cs) (he:e≠3) (hq:q<xs.length) (aS:cs[q]?=some (.row l)) (hr:aw w' B v m) (hc:ai (aC (xs.getD q undef)) w w') (hf:∀ b∈aC v,b∈aC (xs.getD q undef)\/w.heap.size<=b) :
  bN (w'.setCell ⟨g,q,none⟩ v) B e sz (.slice (some ⟨g,0,none⟩) n cap) n (xs.set q v) (cs.set q (.row m)):=by
 have hold:aw w B (xs.getD q undef) l:=h.fits q _ aS;rw[hold.aC] at hc hf;rw[hr.aC] at hf;obtain⟨afo,Yv⟩:∃ afo,w.heap[g]?=some (.cells afo e (0,0)):=by
  rcases h.out.2 with ⟨q,_⟩ | ⟨g',c',cur,q,_,hg,_⟩
  ·cases q
  simp only[Value.slice.injEq,Qz.injEq,Addr.mk.injEq] at q;obtain⟨⟨rfl,-⟩,-⟩:=q;exact⟨_,hg⟩
 have hgx:∀ k,k<xs.length->(xs.getD k undef).ownBlock≠some g:=by
  intro k hk hb;obtain⟨-,-,JD,r,hh⟩:=h.kind hk hb;rw[Yv] at hh;simp at hh;exact he hh.2.1
 have Od:=hc.heap Yv (by simpa using hgx q hq);have hgv:v.ownBlock≠some g:=by
  intro hb;obtain⟨JD,r,hh⟩:=bu hr g (by rw[hr.aC,hb];simp);rw[Od] at hh;simp at hh;exact he hh.2.1
 have eY:w'.ownsRow B e sz (.slice (some ⟨g,0,none⟩) n cap) n xs:=bG h.out hc (λb hb=>by
  simp[Qi] at hb;subst hb;simpa using hgx q hq)
 have br:ai [g] w' (w'.setCell ⟨g,q,none⟩ v):=(ai.refl _ _).setCell (QC (by simp)) _;have hs:=eY.stored q v;refine⟨hs.1,by simp[h.len],by rw[QA];exact h.cells,λk c hk=>?_,λk j hk hj bn=>?_⟩
 ·rw[eK _ _ _ _ _ hq]
  by_cases e1:k=q
  ·subst e1
   rw[if_pos rfl];rw[List.getElem?_set_self (by rw[<-h.len];exact hq)] at hk;cases hk;exact hr.aL br (λb hb e2=>hgv (by simp at e2 hb;rw[hb,e2]))
  rw[if_neg e1];rw[List.getElem?_set_ne (Ne.symm e1)] at hk;have rI:k<xs.length:=by rw[h.len];exact (Qr.1 hk).1
  refine ((h.fits k c hk).aL hc (λb hb e2=>?_)).aL br (λb hb e2=>hgx k rI ((Option.mem_toList.1 hb).trans (congrArg _ (List.mem_singleton.1 e2))));rcases h.apart k q rI hq e1 with t | t
  ·rw[t] at hb;simp at hb
  simp at hb e2;exact t (hb.trans e2.symm)
 rw[QA] at hk hj;rw[eK _ _ _ _ _ hq,eK _ _ _ _ _ hq];by_cases e1:k=q
 ·subst e1
  rw[if_pos rfl,if_neg (Ne.symm bn)];cases hb:v.ownBlock with
  | none=>exact QC rfl
  | some b =>
   refine QE (λe2=>?_);rcases hf b (by rw[hb];simp) with t | t
   ·rcases h.apart j k hj hk (Ne.symm bn) with s | s
    ·rw[s] at e2;cases e2
    simp at t;exact s (e2.symm.trans t.symm)
   have:=(h.kind hj e2.symm).2.1;omega
 rw[if_neg e1];by_cases e2:j=q
 ·subst e2
  rw[if_pos rfl];cases hb:(xs.getD k undef).ownBlock with
  | none=>exact QC rfl
  | some b =>
   refine QE (λe3=>?_);rcases hf b (by rw[<-e3];simp) with t | t
   ·rcases h.apart k j hk hj bn with s | s
    ·rw[s] at hb;cases hb
    simp at t;exact s (hb.trans t.symm)
   have:=(h.kind hk hb).2.1;omega
 rw[if_neg e2];exact h.apart k j hk hj bn
theorem bN.cell (h:bN w B e sz (.slice (some ⟨g,0,none⟩) n cap) n xs cs) (hk:k<xs.length):w.cell? ⟨g,k,none⟩=some (xs.getD k undef):=by
 have:=h.out.cells (g:=g) rfl k (xs.getD k undef) (by simp[Qk,hk]);have mC:(⟨g,0,none⟩:Addr).add k=⟨g,k,none⟩:=by unfold Addr.add;split <;> simp_all
 rwa[mC] at this
theorem bN.shape (h:bN w B e sz ov n xs cs):∃ ao c,ov=.slice ao n c:=bR h.out
theorem bN.some (h:bN w B e sz ov n xs cs) (hn:0<n):∃ g c,ov=.slice (.some ⟨g,0,none⟩) n c:=dj h.out hn
theorem bN.num {z:Int} (h:bN w B e sz ov n xs cs) (hc:cs[k]?=Qz (.num z)):xs.getD k undef=.int .i64 z:=h.fits k _ hc
theorem bN.row (h:bN w B e sz ov n xs cs) (hc:cs[k]?=Qz (.row l)):aw w B (xs.getD k undef) l:=h.fits k _ hc
end
end Go.Proofs.YtoiflofhcmjpoaaGreat
namespace Go.Proofs.YtoiflofhcmjpoaaGreat.Plain
def flat (F:List bP):List Int:=(F.map (·.2)).flatten
structure Lb (g:Gr) (p:Pt) (aa:List (List Int)) (F:List bP) (pre:List Int):Prop where
 rings:bw (aA g aa) (F.map (·.2))
 sub:∀ x∈flat F,x∈p.ah
 key:∀ f∈F,∃ l,f.2=f.1 :: l
 keys:(F.map (·.1)).Sublist pre
 least:∀ f∈F,∃ a b,pre=a++f.1 :: b/\∀ y∈f.2,y ∉ a
 cover:∀ x∈pre,x∈flat F
structure Cur (g:Gr) (p:Pt) (aa:List (List Int)) (F:List bP) (d:Int) (L:List Int) (x:Int):Prop where
 nodup:L.Nodup
 sub:∀ y∈L,y∈p.ah/\y ∉ flat F
 AJ:(L=[]/\x=d)\/∃ l,L=d :: l/\Trail (aA g aa) d l x
 mem:x∈p.ah
def cK (aa:List (List Int)) (l:List Int):List bP:=(l.reverse.filter λv=>(ay aa v).isEmpty).map λv=>(-1 - v,[])
theorem Hy (aa:List (List Int)) (v:Int) (l:List Int):cK aa (v :: l)=cK aa l++(if (ay aa v).isEmpty then [(-1 - v,[])] else []):=by
 grind [cK,ay]
structure cN (g:Gr) (p:Pt) (aa:List (List Int)) (W:List bP):Prop where
 ak:kE g p aa W
 split:∃ F,W=cK aa p.v++F/\Lb g p aa F p.ah
theorem Lb.walks {g:Gr} {p:Pt} {aa:List (List Int)} {F:List bP} (hp:aD g p) (h:Lb g p aa F p.ah):cN g p aa (cK aa p.v++F):=by
 have yJ:(cK aa p.v).filter (λf=>!f.2.isEmpty)=[]:=by
  rw[Qv];intro f hf;obtain⟨v,-,rfl⟩:=Qa.1 hf;simp
 have Cj:(cK aa p.v).filter (λf=>f.2.isEmpty)=cK aa p.v:=by
  rw[Qx];intro f hf;obtain⟨v,-,rfl⟩:=Qa.1 hf;simp
 have bn:∀ f∈F,f.2.isEmpty=false:=λf hf=>by
  obtain⟨l,e⟩:=h.key f hf;rw[e];rfl
 have CU:F.filter (λf=>!f.2.isEmpty)=F:=Qx.2 λf hf=>by rw[bn f hf];rfl
 have Vw:F.filter (λf=>f.2.isEmpty)=[]:=Qv.2 λf hf=>by rw[bn f hf];simp
 refine⟨⟨?_,?_,λf hf d l e=>?_,?_⟩,F,rfl,h⟩
 ·rw[Qp,yJ,CU];exact h.rings
 ·rw[Qp,yJ,CU]
  exact (List.perm_ext_iff_of_nodup h.rings.nodup (cV hp.en)).2 λx=>⟨h.sub x,h.cover x⟩
 ·rcases Qw.1 hf with q | q
  ·obtain⟨v,-,rfl⟩:=Qa.1 q
   cases e
  obtain⟨l',e'⟩:=h.key f q;rw[e'] at e;cases e;rfl
 rw[Qp,Cj,Vw,List.append_nil];unfold cK;rw[QD];exact ((List.reverse_perm p.v).filter _).map _
end Go.Proofs.YtoiflofhcmjpoaaGreat.Plain
namespace Go.Proofs.YtoiflofhcmjpoaaGreat
open Go.RowKit Go.Maps
section
attribute [local go_sem] Oper.semAt_some
end
end Go.Proofs.YtoiflofhcmjpoaaGreat
namespace Go.Proofs.YtoiflofhcmjpoaaGreat
open Go.RowKit Go.Maps
def dQ (F:List Plain.bP):List Cell:=F.flatMap λf=>[.num f.1,.row f.2]
theorem zy (F:List Plain.bP) (f:Plain.bP):dQ (F++[f])=dQ F++[.num f.1,.row f.2]:=by simp[dQ]
structure anI (B:Nat) (wr:World) (ob T:Nat) (F:List Plain.bP):Prop where
 ex:∃ ov xs,wr.heap[ob]?=some (.cells #[ov] 134 (0,0))/\bN wr B 137 2 ov F.length xs (dQ F)/\(∀ b,ov.ownBlock=some b->b<T)/\∀ k b,k<xs.length->(xs.getD k undef).ownBlock=some b->b<T
 lt:ob<T
end Go.Proofs.YtoiflofhcmjpoaaGreat
namespace Go.Proofs.YtoiflofhcmjpoaaGreat
open Go.RowKit Go.Maps
section
variable {ops : Array Oper} {rest : List Oper} {o : Oper} {a : Act} {Q : Exit -> Act -> World -> Prop} {w w' : World} {F : Fence} {nF : Nat}
theorem mK (hg:o.guard=none) (s x:Operand) (t:TypeId) (ho:o.op=.call { callee:=.builtin .append,args:=#[s,x],argTypes:=#[t,t] }) {v u r:Value} (hs:a.eval s=v) (hx:a.eval x=u)
  (hr:(Builtin.append_ #[t,t] o.type #[v,u]).run Tryz.prog w=.ok r w') (hK:wpList Tryz.prog ops Q rest (a.put o.dst r) w'):wpList Tryz.prog ops Q (o :: rest) a w:=by
 refine wpList_plain hg λK Bm=>?_;unfold Oper.wp execOp;simp only[ho,resolve,invoke,builtin,Sem.run_bind,Sem.run_pure,Result.andThen_ok,List.map_toArray,QB,List.map_nil,hs,hx,hr];exact Bm _ _ hK
variable (w)
end
namespace Plain
end Plain
end Go.Proofs.YtoiflofhcmjpoaaGreat
namespace Go.Proofs.YtoiflofhcmjpoaaGreat
open Go.RowKit Go.Maps
structure aq6 (g:Plain.Gr) (p:Plain.Pt) (aa:List (List Int)) (w2 W:World) (mb ob rb D wb:Nat) (L0 F:List Plain.bP) (d:Int) (L:List Int) (v:Value) (f:Int->Option Int) (wi:World):Prop where
 box:wi.heap[wb]?=some (.cells #[.int .i64 d,v] 137 (0,0))
 row:aw wi (wb+1) v L
 out:anI w2.heap.size wi ob wb (L0++F)
 left:dx wi mb p.ah.length f
 f:∀ y,f y≠none↔y∈p.ah/\y ∉ Plain.flat F/\y ∉ L
 ay0:wi.heap[mb+1]?=some (.cells #[.map (some mb)] 124 (0,0))
 ayC:wi.heap[w2.heap.size]?=some (.cells #[.pointer (some ⟨rb,0,none⟩)] 175 (0,0))
 dfr:wi.heap[D]?=some (.deferred (some []))
 aL:ai [mb] W wi
section
attribute [local go_sem] Oper.semAt_some
end
end Go.Proofs.YtoiflofhcmjpoaaGreat
namespace Go.Proofs.YtoiflofhcmjpoaaGreat.Plain
variable {p:Pt} {g:Gr} {F F' W W':List bP} {f:bP}
theorem jH (h:p.e.Pairwise (·<·)):p.ah.Pairwise (·<·):=by
 obtain⟨v,e⟩:=p;unfold Pt.ah;dsimp only at h ⊢
 induction e with
 | nil=>simp
 | cons a l ih =>
  rw[Qq] at h;rw[List.flatMap_cons,Qm]
  grind
theorem Lb.Te {aa:List (List Int)} (h:Lb g p aa F p.ah) (hr:p.e.Pairwise (·<·)) (hf:f∈F) {y:Int} (hy:y∈f.2):f.1<=y:=by
 obtain⟨a,b,e,ha⟩:=h.least f hf;have hd:=h.sub y (Qt.2 ⟨f.2,Qa.2 ⟨f,hf,rfl⟩,hy⟩);have hp:=jH hr;rw[e] at hd hp;rcases Qw.1 hd with q | q
 ·exact absurd q (ha y hy)
 rcases Ql.1 q with q | q
 ·omega
 have:=(Qq.1 (Qm.1 hp).2.1).1 y q;omega
theorem Lb.yQ {aa:List (List Int)} (h:Lb g p aa F p.ah) (hr:p.e.Pairwise (·<·)):(F.map (·.1)).Pairwise (·<·):=(jH hr).sublist h.keys
theorem Lb.aeM {aa:List (List Int)} (h:Lb g p aa F p.ah) (h':Lb g p aa F' p.ah) (hr:p.e.Pairwise (·<·)) (hf:f∈F):f∈F':=by
 obtain⟨l,e⟩:=h.key f hf;have hd:f.1∈flat F':=h'.cover _ (h.sub _ (Qt.2 ⟨f.2,Qa.2 ⟨f,hf,rfl⟩,by grind⟩));obtain⟨c,hc,Lo⟩:=Qt.1 hd;obtain⟨f',xX,rfl⟩:=Qa.1 hc;obtain⟨l',e'⟩:=h'.key f' xX;have fD:=h.rings.ring f.2 (Qa.2 ⟨f,hf,rfl⟩);have cD:=h'.rings.ring f'.2 hc;obtain⟨m,hm,dm⟩:=cD.from Lo;have J8:(f.1 :: l).Nodup:=by
  rw[<-e];exact (iD.1 h.rings.nodup).1 _ (Qa.2 ⟨f,hf,rfl⟩)
 have kr:f'.2.Nodup:=(iD.1 h'.rings.nodup).1 _ hc;have hn3:(f.1 :: m).Nodup:=dm.nodup_iff.2 kr;rw[e] at fD;have Z':l=m:=Trail.det (x:=f.1) fD hm (Qn.1 J8).1 (Qn.1 hn3).1;subst Z';have h1:f.1<=f'.1:=h.Te hr hf (by rw[e];exact dm.mem_iff.2 (by grind));have h2:f'.1<=f.1:=h'.Te hr xX Lo;have hk:f.1=f'.1:=by omega
 rw[e'] at cD kr;rw[<-hk] at cD kr;have Eb:l=l':=Trail.det (x:=f.1) fD cD (Qn.1 J8).1 (Qn.1 kr).1
 grind
theorem FJ:∀ {F F':List bP},(F.map (·.1)).Pairwise (·<·)->(F'.map (·.1)).Pairwise (·<·)->(∀ f,f∈F↔f∈F')->F=F'
 | [],[],_,_,_=>rfl
 | [],f :: F',_,_,h=>by have:=(h f).2 (by simp);simp at this
 | f :: F,[],_,_,h=>by have:=(h f).1 (by simp);simp at this
 | f :: F,f' :: F',h1,h2,h=>by
  rw[QB,Qq] at h1 h2;have a1:∀ x∈F,f.1<x.1:=λx hx=>h1.1 x.1 (Qa.2 ⟨x,hx,rfl⟩);have a2:∀ x∈F',f'.1<x.1:=λx hx=>h2.1 x.1 (Qa.2 ⟨x,hx,rfl⟩);have e:f=f':=by
   rcases Ql.1 ((h f).1 (by simp)) with q | q
   ·exact q
   rcases Ql.1 ((h f').2 (by simp)) with r | r
   ·exact r.symm
   have:=a1 _ r;have:=a2 _ q;omega
  subst e;rw[FJ h1.2 h2.2 λx=>⟨λhx=>?_,λhx=>?_⟩]
  ·rcases Ql.1 ((h x).1 (by simp[hx])) with q | q
   ·subst q;have:=a1 _ hx;omega
   exact q
  rcases Ql.1 ((h x).2 (by simp[hx])) with q | q
  ·subst q;have:=a2 _ hx;omega
  exact q
theorem cN.one {aa:List (List Int)} (hr:p.e.Pairwise (·<·)) (h:cN g p aa W) (h':cN g p aa W'):W=W':=by
 obtain⟨F,e,k⟩:=h.split;obtain⟨F',e',k'⟩:=h'.split;rw[e,e',FJ (k.yQ hr) (k'.yQ hr) λf=>⟨λhf=>k.aeM k' hr hf,λhf=>k'.aeM k hr hf⟩]
open Classical in
noncomputable def bZ (g:Gr) (p:Pt) (aa:List (List Int)):List bP:=if h:∃ W,cN g p aa W then Classical.choose h else []
theorem cN.eq {aa:List (List Int)} (hr:p.err g=0) (h:cN g p aa W):W=bZ g p aa:=by
 have hex:∃ W,cN g p aa W:=⟨W,h⟩;unfold bZ;rw[dif_pos hex];exact h.one (bK (Pt.aF hr).2.2.1) (Classical.choose_spec hex)
def Flat (g:Gr) (p:Pt) (aa:List (List Int)):Prop:=∀ r∈roots g p,dC g p (bZ g p aa) r=0
open Classical in
noncomputable def dA (g:Gr) (p:Pt) (aa:List (List Int)):Int:=if cJ g p aa≠0 then cJ g p aa else if Flat g p aa then 0 else 6
theorem tR {aa:List (List Int)} (h:cJ g p aa≠0):dA g p aa=cJ g p aa:=if_pos h
theorem sB {aa:List (List Int)} (h:cJ g p aa=0) (hf:Flat g p aa):dA g p aa=0:=by grind [dA]
theorem xe {aa:List (List Int)} (h:cJ g p aa=0) (hf:¬ Flat g p aa):dA g p aa=6:=by grind [dA]
theorem oA {aa:List (List Int)} (h:dA g p aa=0):cJ g p aa=0/\Flat g p aa:=by
 all_goals grind [cJ,xe,tR]
theorem KT {aa:List (List Int)} (hr:p.err g=0) (h:cN g p aa W):(W.map (·.1)).Pairwise (·<·):=by
 obtain⟨F,rfl,ht⟩:=h.split;rw[List.map_append,Qm];have hv:=(Pt.aF hr).2.1;have zR:=Pt.ax hr;refine⟨?_,ht.yQ (bK (Pt.aF hr).2.2.1),λx hx y hy=>?_⟩
 ·unfold cK
  rw[QD,List.pairwise_map];refine (List.Pairwise.filter _ (List.pairwise_reverse.2 (bK hv))).imp λ{a b} qD=>?_;show -1 - a < -1 - b;omega
 obtain⟨f,hf,rfl⟩:=Qa.1 hx;obtain⟨v,UT,rfl⟩:=Qa.1 hf;have YU:=zR.vr v (List.mem_reverse.1 (List.mem_filter.1 UT).1);have hd:=ht.keys.subset hy;rw[au] at hd;have:=zR.er _ hd;show -1 - v<y;omega
end Go.Proofs.YtoiflofhcmjpoaaGreat.Plain
namespace Go.Proofs.YtoiflofhcmjpoaaGreat
def IP (V E:Int->List Int) (R:List Int):List Cell:=R.flatMap λr=>[.row (V r),.row (E r)]
theorem Gh (V E:Int->List Int) (R:List Int) (r:Int):IP V E (R++[r])=IP V E R++[.row (V r),.row (E r)]:=by simp[IP]
theorem sQ (V E:Int->List Int) (R:List Int) (r:Int):IP V E (r :: R)=.row (V r) :: .row (E r) :: IP V E R:=rfl
theorem Aq (V E:Int->List Int):∀ (R:List Int) (n:Nat),n<R.length->(IP V E R)[n*2]?=some (.row (V (R.getD n 0)))
 | [],n,h=>by simp at h
 | r :: R,0,_=>by rw[sQ];rfl
 | r :: R,n+1,h=>by
  rw[sQ,show (n+1)*2=n*2+1+1 by omega,Qc,Qc,Aq V E R n (by simpa using h)];rfl
theorem Dv (V E:Int->List Int):∀ (R:List Int) (n:Nat),n<R.length->(IP V E R)[n*2+1]?=some (.row (E (R.getD n 0)))
 | [],n,h=>by simp at h
 | r :: R,0,_=>by rw[sQ];rfl
 | r :: R,n+1,h=>by
  rw[sQ,show (n+1)*2+1=(n*2+1)+1+1 by omega,Qc,Qc,Dv V E R n (by simpa using h)];rfl
namespace Plain
variable {g:Gr} {p:Pt} {k n j:Nat} {l:List Int}
open Classical in
noncomputable def dg (g:Gr) (p:Pt) (k:Nat):List Int:=(p.v.take k).filter λv=>decide (∀ u∈p.v,bS g p (-1) v u->v<=u)
theorem uj (g:Gr) (p:Pt):dg g p 0=[]:=by simp[dg]
theorem pT (g:Gr) (p:Pt):dg g p p.v.length=roots g p:=by grind [dg,roots]
open Classical in
theorem Ge {r:Int} (h:r∈dg g p k):r∈roots g p/\r∈p.v.take k:=by
 grind [dg,fw]
open Classical in
theorem tg (hk:k<p.v.length) (h:p.v.getD k 0∈roots g p):dg g p (k+1)=dg g p k++[p.v.getD k 0]:=by
 unfold dg;have e:p.v.take (k+1)=p.v.take k++[p.v.getD k 0]:=by rw[Qe hk];simp[Qk,hk]
 grind [fw]
open Classical in
theorem tH (hk:k<p.v.length) (h:p.v.getD k 0 ∉ roots g p):dg g p (k+1)=dg g p k:=by
 unfold dg;have e:p.v.take (k+1)=p.v.take k++[p.v.getD k 0]:=by rw[Qe hk];simp[Qk,hk]
 grind [fw]
theorem pB (g:Gr) (p:Pt) (k:Nat):(dg g p k).length<=p.v.length:=by
 grind [dg]
theorem aQ (h:n<l.length):l.getD n 0∈l:=by grind
theorem KQ (hj:j<l.length):l.take (j+1)=l.take j++[l.getD j 0]:=by
 rw[Qe hj]
 grind
theorem agJ (hp:aD g p) (hk:k<p.v.length):p.v.getD k 0 ∉ p.v.take k:=by
 intro h2;have gp:=hp.vn;rw[<-List.take_append_drop k p.v,Qy] at gp;have:p.v.getD k 0∈p.v.drop k:=by
  have e2:p.v.getD k 0=p.v[k]:=by simp[Qk,hk]
  rw[e2,List.drop_eq_getElem_cons hk]
  grind
 grind
end Plain
end Go.Proofs.YtoiflofhcmjpoaaGreat
namespace Go.Proofs.YtoiflofhcmjpoaaGreat
open Go.RowKit Go.Maps
theorem zC:qg 57 27 (.agg #[.slice none 0 0,.slice none 0 0]) 2 48:=⟨Tryz.underlying57,by kernel_rfl,rfl,by decide,by decide⟩
theorem JW (w:World) (B:Nat):aw w B (.slice none 0 0) []:=⟨World.ownsRow_nil _ _ _ _,by simp,by simp⟩
theorem PS {g:Plain.Gr} {p:Plain.Pt} (hp:Plain.aD g p) {a y:Int} (ha:a∈p.v) (h:Plain.bS g p (-1) a y):y∈p.v:=by
 induction h with
 | here=>exact ha
 | step _ hn _ _ =>
  obtain⟨e,he,q | q⟩:=hn
  ·have:=(hp.ends e he).2;rw[q] at this;exact this
  have:=(hp.ends e he).1;rw[q] at this;exact this
end Go.Proofs.YtoiflofhcmjpoaaGreat
namespace Go.Proofs.YtoiflofhcmjpoaaGreat
open Go.RowKit Go.Maps
variable {w:World} {B n i:Nat} {e:TypeId} {ov:Value} {xs:List Value}
theorem uX {V E:Int->List Int} {R:List Int} (h:bN w B e 2 ov n xs (IP V E R)) (hn:n=R.length) (hi:i<R.length) :
  ∃ g c va vc ea ec,ov=.slice (some ⟨g,0,none⟩) n c/\w.cell? ⟨g,i*2,none⟩=some (.slice va (V (R.getD i 0)).length vc)/\w.cell? ⟨g,i*2+1,none⟩=some (.slice ea (E (R.getD i 0)).length ec)/\aw w B (.slice va (V (R.getD i 0)).length vc) (V (R.getD i 0))/\aw w B (.slice ea (E (R.getD i 0)).length ec) (E (R.getD i 0)):=by
 obtain⟨g,c,rfl⟩:=h.some (by omega);have hx:=h.cells;have r1:=h.row (Aq V E R i hi);have r2:=h.row (Dv V E R i hi);have c1:=h.cell (k:=i*2) (by omega);have c2:=h.cell (k:=i*2+1) (by omega);obtain⟨va,vc,e1⟩:=r1.shape;obtain⟨ea,ec,e2⟩:=r2.shape
 grind
theorem CZ:∀ (W:List Plain.bP) (i:Nat),i<W.length->(dQ W)[i*2]?=some (.num (W.getD i (0,[])).1)/\(dQ W)[i*2+1]?=some (.row (W.getD i (0,[])).2)
 | [],i,h=>by simp at h
 | f :: W,0,_=>⟨rfl,rfl⟩
 | f :: W,i+1,h=>by
  have ih:=CZ W i (by simpa using h);have e:dQ (f :: W)=.num f.1 :: .row f.2 :: dQ W:=rfl;rw[e,show (i+1)*2=i*2+1+1 by omega,show i*2+1+1+1=(i*2+1)+1+1 by omega];simp only[Qc,List.getD_cons_succ];exact ih
theorem MF {W:List Plain.bP} (h:bN w B e 2 ov n xs (dQ W)) (hn:n=W.length) (hi:i<W.length) :
  ∃ g c va vc,ov=.slice (some ⟨g,0,none⟩) n c/\w.cell? ⟨g,i*2,none⟩=some (.int .i64 (W.getD i (0,[])).1)/\w.cell? ⟨g,i*2+1,none⟩=some (.slice va (W.getD i (0,[])).2.length vc)/\aw w B (.slice va (W.getD i (0,[])).2.length vc) (W.getD i (0,[])).2:=by
 obtain⟨g,c,rfl⟩:=h.some (by omega);have hx:=h.cells;have hf:=CZ W i hi;have n1:=h.num hf.1;have r2:=h.row hf.2;have c1:=h.cell (k:=i*2) (by omega);have c2:=h.cell (k:=i*2+1) (by omega);obtain⟨va,vc,e2⟩:=r2.shape
 grind
namespace Plain
theorem GJ (g:Gr) (p:Pt) (r:Int):(comp g p r).length<=p.v.length:=by
 grind [comp]
