/- package rota: Next of turns: the Bc behind one around its face. Conditions: turns that are turns, a Bc of the part. -/
import Derived.Test.YtoiflofhcmjpoaaGreatD9New
import Derived.Laws.Bits64
import Derived.RangeFuncNested
import Derived.RangeFuncBound
import Derived.RangeFuncCalls
import Derived.RangeFuncLeaves
import Derived.RangeFuncBox
import Derived.Shelf.Abstract
import Derived.Shelf.AbstractIn
import Derived.Shelf.RegionOpen
import Derived.OwnWalkIn
import Derived.TacticsInMore
import Derived.LoopNIn
import Derived.LoopIn
import Derived.Maps.OwnIn
open List renaming mem_append→Qa,attach_map_subtype_val→Qc,length_map→Qe,mem_singleton→Qf,length_append→Qi,getElem?_append_left→Qj,getElem?_eq_getElem→Qm,length_attach→Qn,take_append_drop→Qo,idxOf_lt_length_of_mem→Qp,getElem?_append_right→Qq,map_append→Qr,getD→Qs,nodup_append→Qt,idxOf_append→Qu,mem_cons→Qv,filter_append→Qx,getElem?_eq_some_iff→Qy,take_length→QA,length_eq_zero_iff→QB,filter_eq_nil_iff→QC,mem_filter→QD,perm_append_comm→QE,length_filter_le→QF,filter_eq_self→QI,append_toArray→QJ,length_reverse→QK,map_cons→QL,mem_map→QN,map_nil→QO,size_toArray→QP,push_toArray→QQ,length_cons→QS,cons_append→QT,map_toArray→QU,length_set→QW,append_nil→QX,length_nil→QY,nil_append→QZ,length→Q7
open Go.Value renaming ownBlock→Qb,slice→Qk,pointer→QM,map→QR,int→Q4
open Or renaming inl→Qd,inr→Qh
open Nat renaming mod_eq_of_lt→Qg,add_mod_right→Ql,le_refl→Qw,reduceAdd→Q0,reduceSub→Q2,le_trans→Q6
open Classical renaming byContradiction→Qz
open Array renaming replicate_succ→QG,replicate_zero→QH
open Option renaming some→QV
open Go.World renaming setCell→Q3
namespace Go.Proofs.YtoiflofhcmjpoaaGreat
open Go.RowKit Go.Maps
namespace Plain
theorem nb (f:Int->Option Int) {L:List Int} (hn:L.Nodup):∀ k,k<=L.length->∀ y,fB f L k y=if y∈L.take k then some ((L.idxOf y:Nat):Int) else f y
 | 0,_,y=>by simp[fB]
 | k+1,hk,y=>by
  unfold fB;rw[nb f hn k (by omega) y,kT (show k<L.length by omega)];simp only[Qa,Qf];by_cases e:y=L.getD k 0
  ·rw[if_pos e,if_pos (Qh e),e,fU hn (by omega)]
  rw[if_neg e];by_cases h:y∈L.take k
  ·rw[if_pos h,if_pos (Qd h)]
  rw[if_neg h,if_neg (fun q=>q.elim h e)]
theorem sN {l:List Int} (h:l.Nodup):(first l).Nodup:=by
 have hp:(first l).Perm l:=by
  unfold first;exact QE.trans (by rw[Qo])
 exact hp.nodup_iff.2 h
theorem sg {T:List (List Int)} {y:Int} (hn:∀ i,i<T.length->(T.getD i []).Nodup):∀ (j k:Nat),k+j<=T.length->(∀ i,k<=i->i<k+j->y ∉ T.getD i [])->places T (k+j) y=places T k y
 | 0,_,_,_=>rfl
 | j+1,k,h,hy=>by
  show fB (places T (k+j)) (first (T.getD (k+j) [])) (first (T.getD (k+j) [])).length y=_;rw[nb _ (sN (hn (k+j) (by omega))) _ (Qw _),QA,if_neg (by rw[kQ];exact hy (k+j) (by omega) (by omega))];exact sg hn j k (by omega) (fun i h1 h2=>hy i h1 (by omega))
theorem JN {T:List (List Int)} (hn:∀ i,i<T.length->(T.getD i []).Nodup) {v:Nat} (hv:v<T.length) {d:Int} (hd:d∈T.getD v []) (hu:∀ i,i<T.length->d∈T.getD i []->i=v):places T T.length d=some (((first (T.getD v [])).idxOf d:Nat):Int):=by
 obtain⟨j,hj⟩:∃ j,T.length=(v+1)+j:=⟨T.length - (v+1),by omega⟩;have h1:=sg (y:=d) hn j (v+1) (by omega) (fun i h1 h2 h3=>by have:=hu i (by omega) h3;omega);rw[<-hj] at h1;rw[h1];show fB (places T v) _ _ d=_;rw[nb _ (sN (hn v hv)) _ (Qw _),QA,if_pos ((kQ _ _).2 hd)]
theorem rq {a b:List Int} (hn:(a++b).Nodup) {x:Int} (hx:x∈a++b):ahead (b++a) x=ahead (a++b) x:=by
 have YW:(b++a).Nodup:=(QE.nodup_iff).1 hn;unfold ahead;rw[Qi,Qi];have Xg:∀ y,y∈a->y∈b->False:=fun y h1 h2=>(Qt.1 hn).2.2 y h1 y h2 rfl;have aeb:∀ i,i<a.length->(b++a).getD (b.length+i) 0=a.getD i 0:=fun i hi=>by simp[Qs,Qq]
 have Tp:∀ i,i<a.length->(a++b).getD i 0=a.getD i 0:=fun i hi=>by simp[Qs,Qj hi]
 have ZY:∀ i,i<b.length->(b++a).getD i 0=b.getD i 0:=fun i hi=>by simp[Qs,Qj hi]
 have UB:∀ i,i<b.length->(a++b).getD (a.length+i) 0=b.getD i 0:=fun i hi=>by simp[Qs,Qq]
 rcases Qa.1 hx with h | h
 ·have hb:x ∉ b:=fun q=>Xg x h q
  have i1:(b++a).idxOf x=a.idxOf x+b.length:=by rw[Qu,if_neg hb]
  have i2:(a++b).idxOf x=a.idxOf x:=by rw[Qu,if_pos h]
  have hi:=Qp h;rw[i1,i2];by_cases h0:a.idxOf x=0
  ·rw[h0]
   by_cases jj:b.length=0
   ·have:b=[]:=QB.1 jj
    subst this;simp
   rw[show (0+b.length+(b.length+a.length) - 1)=(b.length - 1)+(b.length+a.length) by omega,Ql,Qg (by omega),ZY _ (by omega)];rw[show 0+(a.length+b.length) - 1=a.length+(b.length - 1) by omega,Qg (by omega),UB _ (by omega)]
  rw[show a.idxOf x+b.length+(b.length+a.length) - 1=(b.length+(a.idxOf x - 1))+(b.length+a.length) by omega,Ql,Qg (by omega),aeb _ (by omega)];rw[show a.idxOf x+(a.length+b.length) - 1=(a.idxOf x - 1)+(a.length+b.length) by omega,Ql,Qg (by omega),Tp _ (by omega)]
 have ha:x ∉ a:=fun q=>Xg x q h;have i1:(b++a).idxOf x=b.idxOf x:=by rw[Qu,if_pos h]
 have i2:(a++b).idxOf x=b.idxOf x+a.length:=by rw[Qu,if_neg ha]
 have hi:=Qp h;rw[i1,i2];by_cases h0:b.idxOf x=0
 ·rw[h0]
  by_cases CR:a.length=0
  ·have:a=[]:=QB.1 CR
   subst this;simp
  rw[show 0+(b.length+a.length) - 1=b.length+(a.length - 1) by omega,Qg (by omega),aeb _ (by omega)];rw[show (0+a.length+(a.length+b.length) - 1)=(a.length - 1)+(a.length+b.length) by omega,Ql,Qg (by omega),Tp _ (by omega)]
 rw[show b.idxOf x+(b.length+a.length) - 1=(b.idxOf x - 1)+(b.length+a.length) by omega,Ql,Qg (by omega),ZY _ (by omega)];rw[show b.idxOf x+a.length+(a.length+b.length) - 1=(a.length+(b.idxOf x - 1))+(a.length+b.length) by omega,Ql,Qg (by omega),UB _ (by omega)]
theorem Bn {l:List Int} (hn:l.Nodup) {x:Int} (hx:x∈l):ahead (first l) x=ahead l x:=by
 unfold first;have:=rq (a:=l.take (mu l l.length)) (b:=l.drop (mu l l.length)) (by rw[Qo];exact hn) (by rw[Qo];exact hx);rw[this,Qo]
end Plain
theorem kP (d:Nat) (hd:d<4294967296):bits .xor .i64 (d:Int) 1=Plain.aT d:=by
 have hx:d ^^^ 1<2 ^ 33:=Nat.xor_lt_two_pow (by omega) (by omega);have h1:(BitVec.ofInt 64 (d:Int)).toNat=d:=by
  grind
 have h3:bits .xor .i64 (d:Int) 1=((d ^^^ 1:Nat):Int):=by
  show IntKind.i64.wrap ((BitVec.ofInt 64 (d:Int) ^^^ BitVec.ofInt 64 1).toNat:Int)=_;rw[BitVec.toNat_xor,h1,show (BitVec.ofInt 64 1).toNat=1 from rfl,IntKind.wrap_i64];omega
 rw[h3];have h4:(d ^^^ 1) / 2=d / 2:=by rw[Nat.xor_div_two];simp
 have h5:(d ^^^ 1) % 2=(d+1) % 2:=by
  have h6:=Nat.xor_mod_two_pow (a:=d) (b:=1) (n:=1)
  grind
 grind [Plain.aT]
theorem Jv (rb:Nat) (g:Plain.Gr) (p:Plain.Pt) (aa:List (List Int)) (vt vd:Value) (lb pb n m:Nat) (d:Nat) (w:World) (hp:Plain.aB g p) (hT:Plain.aR g p aa) (DK:aa.length<2147483648) (hS:Plain.bU aa aa.length<2147483648) (hd:(d:Int)∈p.ah) (sZ:(d:Int)<4294967296)
  (h:nf w rb (aa.map Plain.first) (fun d=>if d∈p.ah then some (g.tail d) else none) (Plain.places aa aa.length) p.ah vt vd lb pb n m) :
  Calls Tryz.prog 150 #[.pointer (some ⟨rb,0,none⟩),.int .i64 d] w fun e w'=>e=.returned (.tuple #[.int .i64 (Plain.aG g aa d),.bool true])/\w=w':=by
 have HB:=lh (kP d (by omega));have lQ:=lh h;have FI:=Plain.bQ hd;have hv:=hp.vr _ (hp.aO FI).1;obtain⟨v,K0⟩:∃ v:Nat,g.tail (Plain.aT d)=(v:Int):=⟨(g.tail (Plain.aT d)).toNat,by omega⟩;have Uc:v<aa.length:=by have:=hT.len;omega
 have cL:Plain.aT d∈aa.getD v []:=by
  have:=(hT.mem (v:Int) (by omega) (by rw[<-K0];exact hv.2) (Plain.aT d)).2 ⟨FI,K0⟩;simpa[Plain.az] using this
 have Ys:∀ i,i<aa.length->(aa.getD i []).Nodup:=fun i hi=>by have:=hT.nodup (i:Int);simpa[Plain.az] using this
 have qM:=Plain.JN Ys Uc cL (fun i hi hm=>by have:=(hT.row hi hm).2;omega);have oB:(aa.map Plain.first).getD v []=Plain.first (aa.getD v []):=by simp[Qs,Uc]
 have AB:(aa.getD v []).length<2147483648:=by
  have h1:Plain.bU aa (v+1)=Plain.bU aa v+(aa.getD v []).length:=rfl;have h2:=Plain.iG aa (show v+1<=aa.length from Uc);omega
 have hah:Plain.aG g aa d=Plain.ahead (Plain.first (aa.getD v [])) (Plain.aT d):=by
  rw[Plain.Bn (Ys v Uc) cL];unfold Plain.aG Plain.before Plain.az;rw[K0];rfl
 have wF:=Plain.lg (aa.getD v []);have qP:(Plain.first (aa.getD v [])).idxOf (Plain.aT d)<(Plain.first (aa.getD v [])).length:=Qp ((Plain.kQ _ _).2 cL);have Rn:0<=Plain.aT d/\Plain.aT d<=d+1:=by unfold Plain.aT;split <;> omega
 have HC:=lh (BB rb (aa.map Plain.first) (fun d=>if d∈p.ah then some (g.tail d) else none) (Plain.places aa aa.length) p.ah vt vd lb pb n m (Plain.aT d) (-1) v ((Plain.first (aa.getD v [])).idxOf (Plain.aT d)) (((Plain.first (aa.getD v [])).idxOf (Plain.aT d)+(Plain.first (aa.getD v [])).length - 1) % (Plain.first (aa.getD v [])).length) w (aU.mk (by omega) (by omega)) (by show (if _ then _ else _)=_;rw[if_pos FI,K0]) qM (by simpa using Uc) (by rw[Qe];omega) (by rw[oB];exact qP) (by rw[oB];omega) (by omega) (by
   rw[oB];generalize (Plain.first (aa.getD v [])).length=len at *;generalize (Plain.first (aa.getD v [])).idxOf (Plain.aT d)=i at *;rw[Int.tmod_eq_emod_of_nonneg (by omega),show (i:Int) + -1+(len:Int)=((i+len - 1:Nat):Int) by omega];exact (Int.natCast_emod _ _).symm) (by rw[oB];exact Nat.mod_lt _ (by omega)) h)
 rw[oB,show (Plain.first (aa.getD v [])).getD (((Plain.first (aa.getD v [])).idxOf (Plain.aT d)+(Plain.first (aa.getD v [])).length - 1) % (Plain.first (aa.getD v [])).length) 0=Plain.aG g aa d from hah.symm] at HC;clear h FI hv K0 Uc cL Ys qM oB AB hah wF qP Rn
 go_enter Tryz.func150,Tryz.ntmps150
 go_wp2_with fail
 rw[HB.out];refine HC.out.mono ?_;rintro e w2 ⟨rfl,rfl⟩;go_wp2;exact bodyPost_ret (v:=.tuple #[.int .i64 (Plain.aG g aa d),.bool true]) (by simp[results,Tryz.results150,go_sem]) rfl ⟨rfl,rfl⟩
end Go.Proofs.YtoiflofhcmjpoaaGreat
namespace Go.Proofs.YtoiflofhcmjpoaaGreat
open Go.RowKit Go.Maps
inductive Cell where
 | num (k:Int)
 | row (l:List Int)
def Cell.At (w:World) (B:Nat) (v:Value):Cell->Prop
 | num k=>v=.int .i64 k
 | row l=>aj w B v l
theorem Cell.At.aD {w w':World} {B:Nat} {v:Value} {c:Cell} {own:List Nat} (h:c.At w B v) (hc:ag own w w') (hn:∀ b∈v.ownBlock.toList,b ∉ own):c.At w' B v:=by
 cases c with
 | num k=>exact h
 | row l=>exact aj.aD h hc hn
theorem Cell.At.base {w:World} {B B':Nat} {v:Value} {c:Cell} (h:c.At w B' v) (hB:B<=B'):c.At w B v:=by
 cases c with
 | num k=>exact h
 | row l=>exact aj.base h hB
theorem Cell.At.low {w:World} {B:Nat} {v:Value} {c:Cell} (h:c.At w B v):∀ b,v.ownBlock=some b->B<=b/\b<w.heap.size/\∃ cs r,w.heap[b]?=some (.cells cs 3 r):=by
 intro b hb;cases c with
 | num k =>
  have h':v=.int .i64 k:=h;rw[h'] at hb;cases hb
 | row l =>
  have h':aj w B v l:=h;have h1:=h'.low b (by grind);exact⟨h1.1,h1.2,bR h' b (by rw[h'.aE,hb];simp)⟩
theorem Cell.At.one {w:World} {B:Nat} {v:Value} {c:Cell} (h:c.At w B v):v.oneCell'=true:=by
 cases c with
 | num k =>
  have h':v=.int .i64 k:=h;rw[h'];rfl
 | row l =>
  obtain⟨ao,cp,e⟩:=aj.shape h;rw[e];rfl
structure bu (w:World) (B:Nat) (e:TypeId) (sz:Nat) (ov:Value) (n:Nat) (xs:List Value) (cs:List Cell):Prop where
 out:w.ownsRow B e sz ov n xs
 len:xs.length=cs.length
 cells:xs.length=n*sz
 fits:∀ (k:Nat) (c:Cell),cs[k]?=some c->c.At w B (xs.getD k undef)
 apart:∀ k l,k<xs.length->l<xs.length->k≠l->(xs.getD k undef).ownBlock=none\/(xs.getD k undef).ownBlock≠(xs.getD l undef).ownBlock
theorem bu.nil (w:World) (B:Nat) (e:TypeId) (sz:Nat):bu w B e sz (.slice none 0 0) 0 [] []:=⟨World.ownsRow_nil _ _ _ _,rfl,by simp,by simp,by simp⟩
section
variable {w w' : World} {B n sz : Nat} {e : TypeId} {ov : Value} {xs : List Value} {cs : List Cell}
theorem bu.fit (h:bu w B e sz ov n xs cs) {k:Nat} (hk:k<xs.length):∃ c:Cell,cs[k]?=some c/\c.At w B (xs.getD k undef):=by
 have X9:k<cs.length:=by rw[<-h.len];exact hk
 exact⟨cs[k],Qm X9,h.fits k _ (Qm X9)⟩
theorem bu.kind (h:bu w B e sz ov n xs cs) {k b:Nat} (hk:k<xs.length) (hb:(xs.getD k undef).ownBlock=some b):B<=b/\b<w.heap.size/\∃ cs r,w.heap[b]?=some (.cells cs 3 r):=by
 obtain⟨c,-,hc⟩:=h.fit hk;exact hc.low b hb
theorem bu.aD {own:List Nat} (h:bu w B e sz ov n xs cs) (hc:ag own w w') (h1:∀ b,ov.ownBlock=some b->b ∉ own) (h2:∀ k b,k<xs.length->(xs.getD k undef).ownBlock=some b->b ∉ own):bu w' B e sz ov n xs cs :=
 ⟨aY h.out hc h1,h.len,h.cells,fun k c hk=>(h.fits k c hk).aD hc (fun b hb=>h2 k b (by rw[h.len];exact (Qy.1 hk).1) (by simpa using hb)),h.apart⟩
theorem bu.fresh (h:bu w B e sz ov n xs cs) (hc:ag [] w w'):bu w' B e sz ov n xs cs:=h.aD hc (by simp) (by simp)
theorem bu.other {own:List Nat} (h:bu w B e sz ov n xs cs) (hc:ag own w w') (ho:∀ j∈own,(∀ cs t r,w.heap[j]?=some (.cells cs t r)->t≠e/\t≠3)):bu w' B e sz ov n xs cs:=by
 refine h.aD hc (fun b hb hm=>?_) (fun k b hk hb hm=>?_)
 ·rcases h.out.2 with ⟨rfl,_⟩ | ⟨g,c,cur,rfl,_,hg,_⟩
  ·simp[Qb] at hb
  simp[Qb] at hb;subst hb;exact (ho _ hm _ _ _ hg).1 rfl
 obtain⟨-,-,cs,r,hh⟩:=h.kind hk hb;exact (ho _ hm _ _ _ hh).2 rfl
theorem bu.base {B':Nat} (h:bu w B' e sz ov n xs cs) (hB:B<=B'):bu w B e sz ov n xs cs :=
 ⟨jm h.out hB,h.len,h.cells,fun k c hk=>(h.fits k c hk).base hB,h.apart⟩
theorem cN {α:Type} {a b:List α} {d:α} {k:Nat} (hk:k<a.length):(a++b).getD k d=a.getD k d:=by grind
theorem dE {α:Type} {a b:List α} {d:α} {k:Nat} (hk:a.length<=k):(a++b).getD k d=b.getD (k - a.length) d:=by grind
theorem bu.add {g cap:Nat} {us:List Value} {ds:List Cell} (h:bu w B e sz ov n xs cs) (he:e≠3) (hl:us.length=ds.length) (hz:us.length=sz)
  (hu:∀ (k:Nat) (c:Cell),ds[k]?=some c->c.At w B (us.getD k undef)) (Wn:∀ k l,k<us.length->l<us.length->k≠l->(us.getD k undef).ownBlock=none\/(us.getD k undef).ownBlock≠(us.getD l undef).ownBlock)
  (iY:∀ k l b,k<xs.length->l<us.length->(xs.getD k undef).ownBlock=some b->(us.getD l undef).ownBlock≠some b)
  (hn:w'.ownsRow B e sz (.slice (some ⟨g,0,none⟩) (n+1) cap) (n+1) (xs++us)) (hc:ag ov.ownBlock.toList w w') :
  bu w' B e sz (.slice (some ⟨g,0,none⟩) (n+1) cap) (n+1) (xs++us) (cs++ds):=by
 have hlen:=h.len;have oe:∀ {v:Value} {c:Cell},c.At w B v->∀ b∈v.ownBlock.toList,b ∉ ov.ownBlock.toList:=by
  intro v c aK b hb hm;obtain⟨-,-,AM,r,hh⟩:=aK.low b (by simpa using hb);rcases h.out.2 with ⟨rfl,_⟩ | ⟨g',c',cur,rfl,_,hg,_⟩
  ·simp[Qb] at hm
  simp[Qb] at hm;subst hm;rw[hg] at hh;simp at hh;exact he hh.2.1
 refine⟨hn,by simp[hlen,hl],by rw[Qi,h.cells,hz,Nat.add_mul,Nat.one_mul],fun k c hk=>?_,fun k l hk Nd bh=>?_⟩
 ·by_cases e1:k<xs.length
  ·rw[cN e1]
   rw[Qj (by omega)] at hk;exact (h.fits k c hk).aD hc (oe (h.fits k c hk))
  rw[dE (by omega)];rw[Qq (by omega)] at hk;rw[hlen];exact (hu _ c hk).aD hc (oe (hu _ c hk))
 rw[Qi] at hk Nd;by_cases e1:k<xs.length
 ·rw[cN e1]
  by_cases e2:l<xs.length
  ·rw[cN e2]
   exact h.apart k l e1 e2 bh
  rw[dE (by omega)];cases hq:(xs.getD k undef).ownBlock with
  | none=>exact Qd rfl
  | some b=>exact Qh (fun q=>iY k _ b e1 (by omega) hq q.symm)
 rw[dE (by omega)];by_cases e2:l<xs.length
 ·rw[cN e2]
  cases hq:(us.getD (k - xs.length) undef).ownBlock with
  | none=>exact Qd rfl
  | some b=>exact Qh (fun q=>iY l _ b e2 (by omega) q.symm hq)
 rw[dE (by omega)];exact Wn _ _ (by omega) (by omega) (by omega)
theorem dM {α:Type} (l:List α) (i:Nat) (v d:α) (j:Nat) (hi:i<l.length):(l.set i v).getD j d=if j=i then v else l.getD j d:=by
 all_goals grind
theorem bu.put {g cap q:Nat} {l m:List Int} {v:Value} (h:bu w B e sz (.slice (some ⟨g,0,none⟩) n cap) n xs cs) (he:e≠3) (hq:q<xs.length) (aK:cs[q]?=some (.row l)) (hr:aj w' B v m) (hc:ag (aE (xs.getD q undef)) w w') (hf:∀ b∈aE v,b∈aE (xs.getD q undef)\/w.heap.size<=b) :
  bu (w'.setCell ⟨g,q,none⟩ v) B e sz (.slice (some ⟨g,0,none⟩) n cap) n (xs.set q v) (cs.set q (.row m)):=by
 have hold:aj w B (xs.getD q undef) l:=h.fits q _ aK;rw[hold.aE] at hc hf;rw[hr.aE] at hf;obtain⟨Ze,Pf⟩:∃ Ze,w.heap[g]?=some (.cells Ze e (0,0)):=by
  rcases h.out.2 with ⟨q,_⟩ | ⟨g',c',cur,q,_,hg,_⟩
  ·cases q
  simp only[Qk.injEq,QV.injEq,Addr.mk.injEq] at q;obtain⟨⟨rfl,-⟩,-⟩:=q;exact⟨_,hg⟩
 have hgx:∀ k,k<xs.length->(xs.getD k undef).ownBlock≠some g:=by
  intro k hk hb;obtain⟨-,-,AM,r,hh⟩:=h.kind hk hb;rw[Pf] at hh;simp at hh;exact he hh.2.1
 have H8:=hc.heap Pf (by simpa using hgx q hq);have hgv:v.ownBlock≠some g:=by
  intro hb;obtain⟨AM,r,hh⟩:=bR hr g (by rw[hr.aE,hb];simp);rw[H8] at hh;simp at hh;exact he hh.2.1
 have fg:w'.ownsRow B e sz (.slice (some ⟨g,0,none⟩) n cap) n xs:=aY h.out hc (fun b hb=>by
  simp[Qb] at hb;subst hb;simpa using hgx q hq)
 have aZ:ag [g] w' (w'.setCell ⟨g,q,none⟩ v):=(ag.refl _ _).setCell (Qd (by simp)) _;have hs:=fg.stored q v;refine⟨hs.1,by simp[h.len],by rw[QW];exact h.cells,fun k c hk=>?_,fun k j hk hj bh=>?_⟩
 ·rw[dM _ _ _ _ _ hq]
  by_cases e1:k=q
  ·subst e1
   rw[if_pos rfl];rw[List.getElem?_set_self (by rw[<-h.len];exact hq)] at hk;cases hk;exact hr.aD aZ (fun b hb e2=>hgv (by simp at e2 hb;rw[hb,e2]))
  rw[if_neg e1];rw[List.getElem?_set_ne (Ne.symm e1)] at hk;have nS:k<xs.length:=by rw[h.len];exact (Qy.1 hk).1
  refine ((h.fits k c hk).aD hc (fun b hb e2=>?_)).aD aZ (fun b hb e2=>hgx k nS ((Option.mem_toList.1 hb).trans (congrArg _ (Qf.1 e2))));rcases h.apart k q nS hq e1 with t | t
  ·rw[t] at hb;simp at hb
  simp at hb e2;exact t (hb.trans e2.symm)
 rw[QW] at hk hj;rw[dM _ _ _ _ _ hq,dM _ _ _ _ _ hq];by_cases e1:k=q
 ·subst e1
  rw[if_pos rfl,if_neg (Ne.symm bh)];cases hb:v.ownBlock with
  | none=>exact Qd rfl
  | some b =>
   refine Qh (fun e2=>?_);rcases hf b (by rw[hb];simp) with t | t
   ·rcases h.apart j k hj hk (Ne.symm bh) with s | s
    ·rw[s] at e2;cases e2
    simp at t;exact s (e2.symm.trans t.symm)
   have:=(h.kind hj e2.symm).2.1;omega
 rw[if_neg e1];by_cases e2:j=q
 ·subst e2
  rw[if_pos rfl];cases hb:(xs.getD k undef).ownBlock with
  | none=>exact Qd rfl
  | some b =>
   refine Qh (fun e3=>?_);rcases hf b (by rw[<-e3];simp) with t | t
   ·rcases h.apart k j hk hj bh with s | s
    ·rw[s] at hb;cases hb
    simp at t;exact s (hb.trans t.symm)
   have:=(h.kind hk hb).2.1;omega
 rw[if_neg e2];exact h.apart k j hk hj bh
theorem bu.cell {g cap k:Nat} (h:bu w B e sz (.slice (some ⟨g,0,none⟩) n cap) n xs cs) (hk:k<xs.length):w.cell? ⟨g,k,none⟩=some (xs.getD k undef):=by
 have:=h.out.cells (g:=g) rfl k (xs.getD k undef) (by simp[Qs,hk]);have iu:(⟨g,0,none⟩:Addr).add k=⟨g,k,none⟩:=by unfold Addr.add;split <;> simp_all
 rwa[iu] at this
theorem bu.shape (h:bu w B e sz ov n xs cs):∃ ao c,ov=.slice ao n c:=bk h.out
theorem bu.some (h:bu w B e sz ov n xs cs) (hn:0<n):∃ g c,ov=.slice (.some ⟨g,0,none⟩) n c:=cD h.out hn
theorem bu.num {k:Nat} {z:Int} (h:bu w B e sz ov n xs cs) (hc:cs[k]?=QV (.num z)):xs.getD k undef=.int .i64 z:=h.fits k _ hc
theorem bu.row {k:Nat} {l:List Int} (h:bu w B e sz ov n xs cs) (hc:cs[k]?=QV (.row l)):aj w B (xs.getD k undef) l:=h.fits k _ hc
end
end Go.Proofs.YtoiflofhcmjpoaaGreat
namespace Go.Proofs.YtoiflofhcmjpoaaGreat.Plain
theorem Lp {g:Gr} {p:Pt} {aa:List (List Int)} (hp:aB g p) (ht:aR g p aa) {x:Int} (hx:x∈p.ah):aG g aa x∈p.ah :=
 (nu ht (fun _ hd=>hp.vr _ (hp.aO hd).1) hx).1
theorem Ck {g:Gr} {p:Pt} {aa:List (List Int)} (hp:aB g p) (ht:aR g p aa) {x y:Int} (hx:x∈p.ah) (hy:y∈p.ah) (e:aG g aa x=aG g aa y):x=y:=by
 obtain⟨h1,h2⟩:=lr ht hp.en hp.vn hp.vr;have hm:∀ z,z∈p.ah->aT z∈((busy aa p.v).map fun v=>(az aa v).reverse).flatten:=fun z hz =>
  h2.mem_iff.2 (QD.2 ⟨bQ hz,decide_eq_true (hp.aO (bQ hz)).1⟩)
 have:=h1.inj _ (hm x hx) _ (hm y hy) e;rw[<-bC x,this,bC]
def flat (F:List bn):List Int:=(F.map (·.2)).flatten
theorem yd (F:List bn) (f:bn):flat (F++[f])=flat F++f.2:=by simp[flat]
structure wh (g:Gr) (p:Pt) (aa:List (List Int)) (F:List bn) (pre:List Int):Prop where
 rings:bw (aG g aa) (F.map (·.2))
 sub:∀ x∈flat F,x∈p.ah
 key:∀ f∈F,∃ l,f.2=f.1 :: l
 keys:(F.map (·.1)).Sublist pre
 least:∀ f∈F,∃ a b,pre=a++f.1 :: b/\∀ y∈f.2,y ∉ a
 cover:∀ x∈pre,x∈flat F
theorem wh.start (g:Gr) (p:Pt) (aa:List (List Int)):wh g p aa [] []:=⟨⟨by simp,by simp⟩,by simp[flat],by simp,by simp,by simp,by simp⟩
theorem wh.skip {g:Gr} {p:Pt} {aa:List (List Int)} {F:List bn} {pre:List Int} (h:wh g p aa F pre) {d:Int} (hd:d∈flat F):wh g p aa F (pre++[d]):=by
 refine⟨h.rings,h.sub,h.key,h.keys.trans (List.sublist_append_left _ _),fun f hf=>?_,fun x hx=>?_⟩
 ·obtain⟨a,b,e,ha⟩:=h.least f hf
  exact⟨a,b++[d],by rw[e];simp,ha⟩
 rcases Qa.1 hx with q | q
 ·exact h.cover x q
 rw[Qf.1 q];exact hd
structure SB (g:Gr) (p:Pt) (aa:List (List Int)) (F:List bn) (d:Int) (L:List Int) (x:Int):Prop where
 nodup:L.Nodup
 sub:∀ y∈L,y∈p.ah/\y ∉ flat F
 qL:(L=[]/\x=d)\/∃ l,L=d :: l/\Trail (aG g aa) d l x
 mem:x∈p.ah
theorem SB.start {g:Gr} {p:Pt} {aa:List (List Int)} {F:List bn} {d:Int} (hd:d∈p.ah):SB g p aa F d [] d:=⟨by simp,by simp,Qd ⟨rfl,rfl⟩,hd⟩
theorem SB.step {g:Gr} {p:Pt} {aa:List (List Int)} {F:List bn} {d x:Int} {L:List Int} (hp:aB g p) (ht:aR g p aa) (h:SB g p aa F d L x) (h1:x ∉ flat F) (h2:x ∉ L):SB g p aa F d (L++[x]) (aG g aa x):=by
 refine⟨?_,fun y hy=>?_,Qh ?_,Lp hp ht h.mem⟩
 ·rw[Qt]
  exact⟨h.nodup,by simp,fun a ha b hb e=>by simp at hb;subst hb;subst e;exact h2 ha⟩
 ·rcases Qa.1 hy with q | q
  ·exact h.sub y q
  rw[Qf.1 q];exact⟨h.mem,h1⟩
 rcases h.qL with ⟨rfl,rfl⟩ | ⟨l,rfl,ht⟩
 ·exact⟨[],rfl,rfl⟩
 exact⟨l++[x],rfl,Trail.append.2 ⟨ht,rfl⟩⟩
theorem uP {q:Int->Int} {z:Int}:∀ {l:List Int} {a:Int},Trail q a l z->∃ m y,a :: l=m++[y]/\q y=z
 | [],a,h=>⟨[],a,rfl,h⟩
 | b :: l,a,h=>by
  obtain⟨m,y,e,hy⟩:=uP h.2;exact⟨a :: m,y,by rw[e];rfl,hy⟩
theorem ug {q:Int->Int} {z:Int}:∀ {l:List Int} {a:Int},Trail q a l z->∀ x∈l,∃ m y r,a :: l=m++y :: x :: r/\q y=x
 | [],a,_,x,hx=>by simp at hx
 | b :: l,a,h,x,hx=>by
  rcases Qv.1 hx with rfl | hx
  ·exact⟨[],a,l,rfl,h.1⟩
  obtain⟨m,y,r,e,hy⟩:=ug h.2 x hx;exact⟨a :: m,y,r,by rw[e];rfl,hy⟩
theorem SB.ring {g:Gr} {p:Pt} {aa:List (List Int)} {F:List bn} {pre:List Int} {d x:Int} {L:List Int} (hp:aB g p) (ht:aR g p aa) (hF:wh g p aa F pre) (h:SB g p aa F d L x) (hL:L≠[]) (hx:x∈flat F\/x∈L):∃ l,L=d :: l/\Ring (aG g aa) L:=by
 rcases h.qL with ⟨rfl,-⟩ | ⟨l,rfl,hw⟩
 ·exact absurd rfl hL
 refine⟨l,rfl,?_⟩;obtain⟨m,z,e,hz⟩:=uP hw;have hzL:z∈d :: l:=by rw[e];simp
 have hzd:=h.sub z hzL;rcases hx with q | q
 ·obtain⟨y,hy,hyx⟩:=hF.rings.pred (x:=x) q
  have:y=z:=Ck hp ht (hF.sub y hy) hzd.1 (hyx.trans hz.symm);subst this;exact absurd hy hzd.2
 rcases Qv.1 q with rfl | q
 ·exact hw
 obtain⟨m',y,r,e',hy⟩:=ug hw x q;have hyL:y∈d :: l:=by rw[e'];simp
 have:y=z:=Ck hp ht (h.sub y hyL).1 hzd.1 (hy.trans hz.symm);subst this;exfalso;have hn:=h.nodup;have e2:m'++y :: x :: r=m++[y]:=e'.symm.trans e;have hlen:=congrArg Q7 e2;simp at hlen;have g1:(m'++y :: x :: r)[m'.length]?=some y:=by simp
 rw[e] at hn;rw[e2,Qj (by omega)] at g1;exact (Qt.1 hn).2.2 y (List.mem_of_getElem? g1) y (by simp) rfl
theorem wh.add {g:Gr} {p:Pt} {aa:List (List Int)} {F:List bn} {pre:List Int} {d:Int} {L:List Int} (h:wh g p aa F pre) (hn:L.Nodup) (hs:∀ y∈L,y∈p.ah/\y ∉ flat F) (hr:∃ l,L=d :: l/\Ring (aG g aa) L):wh g p aa (F++[(d,L)]) (pre++[d]):=by
 obtain⟨l,e,Hy⟩:=hr;have wF:=yd F (d,L);refine⟨⟨fun c hc=>?_,?_⟩,fun x hx=>?_,fun f hf=>?_,?_,fun f hf=>?_,fun x hx=>?_⟩
 ·rw[Qr,Qa] at hc
  rcases hc with q | q
  ·exact h.rings.ring c q
  simp at q;rw[q];exact Hy
 ·show (flat (F++[(d,L)])).Nodup
  rw[wF,Qt];exact⟨h.rings.nodup,hn,fun a ha b hb q=>(hs b hb).2 (q ▸ ha)⟩
 ·rw[wF,Qa] at hx
  exact hx.elim (h.sub x) (fun q=>(hs x q).1)
 ·rcases Qa.1 hf with q | q
  ·exact h.key f q
  rw[Qf.1 q];exact⟨l,e⟩
 ·rw[Qr]
  exact h.keys.append (List.Sublist.refl _)
 ·rcases Qa.1 hf with q | q
  ·obtain⟨a,b,e1,ha⟩:=h.least f q
   exact⟨a,b++[d],by rw[e1];simp,ha⟩
  rw[Qf.1 q];exact⟨pre,[],rfl,fun y hy hm=>(hs y hy).2 (h.cover y hm)⟩
 rw[wF,Qa];rcases Qa.1 hx with q | q
 ·exact Qd (h.cover x q)
 rw[Qf.1 q,e];exact Qh (by simp)
def cR (aa:List (List Int)) (l:List Int):List bn:=(l.reverse.filter fun v=>(az aa v).isEmpty).map fun v=>(-1 - v,[])
theorem BN (aa:List (List Int)) (v:Int) (l:List Int):cR aa (v :: l)=cR aa l++(if (az aa v).isEmpty then [(-1 - v,[])] else []):=by
 grind [cR,az]
structure dy (g:Gr) (p:Pt) (aa:List (List Int)) (W:List bn):Prop where
 ak:ix g p aa W
 split:∃ F,W=cR aa p.v++F/\wh g p aa F p.ah
theorem wh.walks {g:Gr} {p:Pt} {aa:List (List Int)} {F:List bn} (hp:aB g p) (h:wh g p aa F p.ah):dy g p aa (cR aa p.v++F):=by
 have Dv:(cR aa p.v).filter (fun f=>!f.2.isEmpty)=[]:=by
  rw[QC];intro f hf;obtain⟨v,-,rfl⟩:=QN.1 hf;simp
 have Az:(cR aa p.v).filter (fun f=>f.2.isEmpty)=cR aa p.v:=by
  rw[QI];intro f hf;obtain⟨v,-,rfl⟩:=QN.1 hf;simp
 have bh:∀ f∈F,f.2.isEmpty=false:=fun f hf=>by
  obtain⟨l,e⟩:=h.key f hf;rw[e];rfl
 have yS:F.filter (fun f=>!f.2.isEmpty)=F:=QI.2 fun f hf=>by rw[bh f hf];rfl
 have PD:F.filter (fun f=>f.2.isEmpty)=[]:=QC.2 fun f hf=>by rw[bh f hf];simp
 refine⟨⟨?_,?_,fun f hf d l e=>?_,?_⟩,F,rfl,h⟩
 ·rw[Qx,Dv,yS];exact h.rings
 ·rw[Qx,Dv,yS]
  exact (List.perm_ext_iff_of_nodup h.rings.nodup (dz hp.en)).2 fun x=>⟨h.sub x,h.cover x⟩
 ·rcases Qa.1 hf with q | q
  ·obtain⟨v,-,rfl⟩:=QN.1 q
   cases e
  obtain⟨l',e'⟩:=h.key f q;rw[e'] at e;cases e;rfl
 rw[Qx,Az,PD,QX];unfold cR;rw[List.map_map];exact ((List.reverse_perm p.v).filter _).map _
end Go.Proofs.YtoiflofhcmjpoaaGreat.Plain
namespace Go.Proofs.YtoiflofhcmjpoaaGreat
open Go.RowKit Go.Maps
theorem x8 (rb:Nat) (w:World) :
  Calls Tryz.prog 149 #[.pointer (some ⟨rb,0,none⟩)] w fun e w'=>e=.returned (.func (.func 186) #[] #[.pointer (some ⟨w.heap.size,0,none⟩)])/\w'=w.alloc (.cells #[.pointer (some ⟨rb,0,none⟩)] 175):=by
 go_enter Tryz.func149,Tryz.ntmps149
 go_wp2;go_ret;exact⟨rfl,rfl⟩
def uL (W:World) (Bs rb:Nat) (vd:Value) (ds:List Int):Prop:=W.cell? ⟨Bs,0,none⟩=some (.pointer (some ⟨rb,0,none⟩))/\W.cell? ⟨rb,3,none⟩=some vd/\al W vd ds
theorem uL.aD {W W':World} {own:List Nat} {Bs rb:Nat} {vd:Value} {ds:List Int} (h:uL W Bs rb vd ds) (hc:ag own W W') (h1:Bs ∉ own) (h2:rb ∉ own) (h3:∀ b n c,vd=.slice (some b) n c->b.block ∉ own):uL W' Bs rb vd ds :=
 ⟨hc.cell h.1 h1,hc.cell h.2.1 h2,h.2.2.aD hc h3⟩
def j8 (Bs rb:Nat) (vd:Value) (ds:List Int) (A B:World):Prop:=A.heap.size<=B.heap.size/\(uL A Bs rb vd ds->uL B Bs rb vd ds)
section
attribute [local go_sem] Oper.semAt_some
set_option maxRecDepth 100000 in
set_option maxHeartbeats 2000000 in
theorem I8 (α:Type) (enc:α->Int) (n:Nat) (hn:1<=n) (l Bs rb:Nat) (vd:Value) (xs:List α) (hl:xs.length<4294967296) (J Jx:List α->World->Prop)
  (hY:∀ pre x W,J pre W->pre.length<xs.length->YieldAt Fence.wide (n - 1) Tryz.prog l #[.int .i64 (enc x)] W fun e W' =>
   (e=.returned (.bool true)/\J (pre++[x]) W'/\j8 Bs rb vd (xs.map enc) W W')\/(e=.returned (.bool false)/\Jx (pre++[x]) W'))
  (W:World) (hI:uL W Bs rb vd (xs.map enc)) (h0:J [] W) :
  CallsIn Fence.wide n Tryz.prog 186 #[.func (.yield l) #[] #[],.pointer (some ⟨Bs,0,none⟩)] W fun e W'=>(∃ v,e=.returned v) /\
   ((∃ ys,ys=xs/\J ys W')\/(∃ pre,(∃ k,k<=xs.length/\pre=xs.take k)/\Jx pre W')):=by
 have HIT:=lh hI;obtain⟨cY,bA,cT⟩:=hI;obtain⟨ao,cap,rfl,-,-,ka⟩:=cT;rw[Qe] at ka bA;have aj7:Hid (uL W Bs rb (.slice ao xs.length cap) (xs.map enc)):=by have:=HIT.out;rw[Qe] at this;exact lh this
 have hY2:Hid (∀ pre x W,J pre W->pre.length<xs.length->YieldAt Fence.wide (n - 1) Tryz.prog l #[.int .i64 (enc x)] W fun e W' =>
   (e=.returned (.bool true)/\J (pre++[x]) W'/\j8 Bs rb (.slice ao xs.length cap) (xs.map enc) W W')\/(e=.returned (.bool false)/\Jx (pre++[x]) W')):=by
  have:=hY;rw[Qe] at this;exact lh this
 clear ka hY HIT;refine callsIn_of_wp Tryz.func186 rfl trivial ?_ rfl;simp only[Tryz.ntmps186,QP,QS,QY,Q0,Q2,QG,QH,QQ,QJ,QZ,QT]
 gi_wp2
 gi_loopw [12] (fun i wr=>∃ k:Nat,k<=xs.length/\i=.int .i64 k/\J (xs.take k) wr/\Hid (uL wr Bs rb (.slice ao xs.length cap) (xs.map enc))) (fun i _=>xs.length - (intOf i).toNat)
 case atStart=>exact⟨0,Nat.zero_le _,rfl,by simpa using h0,aj7⟩
 case round =>
  obtain⟨k,hk,rfl,hJs,hit⟩:=hrel;have HJ:=lh hJs;by_cases aL:k<xs.length
  ·obtain⟨x,hx⟩:∃ x,xs[k]?=some x:=⟨xs[k],Qm aL⟩
   have nL:=lh (show xs.take (k+1)=xs.take k++[x] by
    rw[List.take_succ_eq_append_getElem aL]
    congr 1
    rw[Qm aL] at hx;simpa using hx)
   obtain⟨Df,qg,e,-,-,ka⟩:=hit.out.2.2;obtain⟨b,off,e2,aK⟩:=ka (by intro q;have:=congrArg Q7 q;rw[Qe] at this;simp at this;subst this;simp at aL);simp only[Qk.injEq] at e;obtain⟨e3,-,-⟩:=e;rw[e2] at e3;subst e3;have ck:=aK k (by rw[Qe];exact aL);have hxe:(xs.map enc).getD k 0=enc x:=by simp[Qs,hx]
   rw[hxe] at ck;obtain⟨fn,tmps,assign,body,hy,hR⟩:=hY2.out (xs.take k) x wr hJs (by rw[List.length_take];omega);clear hx aK ka hxe hJs;generalize enc x=z at *
   gi_wp2
   refine hR.mono ?_;rintro e W3 (⟨rfl,hJ3,Yw⟩ | ⟨rfl,hJx3⟩)
   ·have HJ3:=lh hJ3
    have HI3:=lh (Yw.2 hit.out)
    gi_wp2
    go_roundw
    case rel=>exact⟨k+1,by omega,by go_num,by rw[nL.out];exact HJ3.out,HI3⟩
    case measure=>simp[intOf];omega
   have HJ3:=lh hJx3
   gi_wp2
   refine bodyPost_ret (results_none rfl _ _ _) rfl ?_;exact⟨⟨_,rfl⟩,.inr ⟨_,⟨k+1,by omega,rfl⟩,by rw[nL.out];exact HJ3.out⟩⟩
  have e:k=xs.length:=by omega
  subst e
  gi_wp2
  go_end0
  exact⟨⟨_,rfl⟩,.inl ⟨xs,rfl,by have:=HJ.out;rwa[QA] at this⟩⟩
theorem sI (α:Type) (enc:α->Int) (n:Nat) (hn:1<=n) (Bs rb:Nat) (vd:Value) (xs:List α) (hl:xs.length<4294967296) (w:World) (hI:uL w Bs rb vd (xs.map enc)) :
  SeqStopsK Fence.wide n Tryz.prog 186 #[.pointer (some ⟨Bs,0,none⟩)] (fun x:α=>#[Q4 .i64 (enc x)]) (j8 Bs rb vd (xs.map enc)) (fun ys=>ys=xs) (fun pre=>∃ k,k<=xs.length/\pre=xs.take k) xs.length w:=fun l J Jx W hW _ _ hY h0 =>
 I8 α enc n hn l Bs rb vd xs hl J Jx hY W (by
  have hc:ag [] w W:=ag.mL hW (Qw _);exact hI.aD hc (by simp) (by simp) (by simp)) h0
end
end Go.Proofs.YtoiflofhcmjpoaaGreat
namespace Go.Proofs.YtoiflofhcmjpoaaGreat
open Go.RowKit Go.Maps
def eV (F:List Plain.bn):List Cell:=F.flatMap fun f=>[.num f.1,.row f.2]
theorem vI (F:List Plain.bn) (f:Plain.bn):eV (F++[f])=eV F++[.num f.1,.row f.2]:=by simp[eV]
theorem Ot:nh 134 137 (.agg #[.int .i64 0,.slice none 0 0]) 2 32:=⟨Tryz.underlying134,by kernel_rfl,rfl,by decide,by decide⟩
structure mE (B:Nat) (wr:World) (ob T:Nat) (F:List Plain.bn):Prop where
 ex:∃ ov xs,wr.heap[ob]?=some (.cells #[ov] 134 (0,0))/\bu wr B 137 2 ov F.length xs (eV F)/\(∀ b,ov.ownBlock=some b->b<T)/\∀ k b,k<xs.length->(xs.getD k undef).ownBlock=some b->b<T
 lt:ob<T
theorem mE.keep {B:Nat} {wr w':World} {ob T:Nat} {F:List Plain.bn} {own:List Nat} (h:mE B wr ob T F) (hc:ag own wr w') (ho:∀ j∈own,T<=j\/∀ cs t r,wr.heap[j]?≠some (.cells cs t r)):mE B w' ob T F:=by
 obtain⟨⟨ov,xs,h1,h2,h3,h4⟩,h5⟩:=h;refine⟨⟨ov,xs,hc.heap h1 (fun hm=>?_),h2.aD hc (fun b hb hm=>?_) (fun k b hk hb hm=>?_),h3,h4⟩,h5⟩
 ·rcases ho _ hm with q | q
  ·omega
  exact q _ _ _ h1
 ·rcases ho _ hm with q | q
  ·have:=h3 b hb;omega
  rcases h2.out.2 with ⟨rfl,_⟩ | ⟨g,c,cur,rfl,_,hg,_⟩
  ·simp[Qb] at hb
  simp[Qb] at hb;subst hb;exact q _ _ _ hg
 rcases ho _ hm with q | q
 ·have:=h4 k b hk hb;omega
 obtain⟨-,-,cs,r,hh⟩:=h2.kind hk hb;exact q _ _ _ hh
theorem mE.fresh {B:Nat} {wr w':World} {ob T:Nat} {F:List Plain.bn} (h:mE B wr ob T F) (hc:ag [] wr w'):mE B w' ob T F:=h.keep hc (by simp)
theorem mE.up {B:Nat} {wr:World} {ob T T':Nat} {F:List Plain.bn} (h:mE B wr ob T F) (hT:T<=T'):mE B wr ob T' F:=by
 obtain⟨⟨ov,xs,h1,h2,h3,h4⟩,h5⟩:=h;exact⟨⟨ov,xs,h1,h2,fun b hb=>by have:=h3 b hb;omega,fun k b hk hb=>by have:=h4 k b hk hb;omega⟩,by omega⟩
theorem mE.push {B:Nat} {wr:World} {ob T:Nat} {F:List Plain.bn} (h:mE B wr ob T F) (hB:B<=wr.heap.size) (qz:B<=ob) (k:Int) {v:Value} {l:List Int} (hv:aj wr B v l) (hT:∀ j∈aE v,T<=j) (hn:F.length<1000000000) :
  ∃ ao c g cap w2,wr.cell? ⟨ob,0,none⟩=some (.slice ao F.length c) /\
   (Builtin.append_ #[134,134] 134 #[.slice ao F.length c,.slice (some ⟨wr.heap.size,0,none⟩) 1 1]).run Tryz.prog (wr.alloc (.cells #[.int .i64 k,v] 137))=.ok (.slice (some ⟨g,0,none⟩) (F.length+1) cap) w2 /\
   w2.cell? ⟨ob,0,none⟩=some (.slice ao F.length c)/\w2.frozen? ⟨ob,0,none⟩=false /\
   mE B (w2.setCell ⟨ob,0,none⟩ (.slice (some ⟨g,0,none⟩) (F.length+1) cap)) ob w2.heap.size (F++[(k,l)]) /\
   ∃ own,ag own wr (w2.setCell ⟨ob,0,none⟩ (.slice (some ⟨g,0,none⟩) (F.length+1) cap))/\∀ j∈own,j=ob\/(B<=j/\∃ cs r,wr.heap[j]?=some (.cells cs 137 r)):=by
 obtain⟨⟨ov,xs,h1,h2,h3,h4⟩,h5⟩:=h;obtain⟨ao,c,rfl⟩:=h2.shape;obtain⟨g,cap,w2,hr,r2,r3,r4⟩:=kZ Ot h2.out hB (cs:=#[.int .i64 k,v]) rfl (by
  intro u hu;simp at hu;rcases hu with rfl | rfl
  ·rfl
  obtain⟨a',c',e⟩:=hv.shape;rw[e];rfl) (by omega) (Qd rfl) 134
 have oe:(Qk ao F.length c).ownBlock≠some ob:=fun e=>jA h2.out h1 (by decide) e;have ff:=r3.heap h1 (by simpa using oe);have dj:=r3.size;have sW:xs.length=F.length*2:=h2.cells;have Oi:=h2.add (w':=w2) (g:=g) (cap:=cap) (us:=[.int .i64 k,v]) (ds:=[.num k,.row l]) (by decide) rfl rfl (fun i d hi=>by
   rcases i with _ | _ | i
   ·simp at hi;subst hi;rfl
   ·simp at hi;subst hi;exact hv
   ·simp at hi) (fun i j hi hj bh=>by
   simp at hi hj;rcases i with _ | _ | i
   ·exact Qd rfl
   ·rcases j with _ | _ | j
    ·cases hq:([Q4 .i64 k,v].getD 1 undef).ownBlock with
     | none=>exact Qd rfl
     | some b=>exact Qh (by simp[Qb])
    ·omega
    omega
   ·omega) (fun i j b hi hj hb e=>by
   simp at hj;have:=h4 i b hi hb;rcases j with _ | _ | j
   ·simp[Qb] at e
   ·have e':v.ownBlock=some b:=e
    have:=hT b (by rw[hv.aE,e'];simp);omega
   omega) r2 r3
 have aZ:ag [ob] w2 (w2.setCell ⟨ob,0,none⟩ (.slice (some ⟨g,0,none⟩) (F.length+1) cap)):=(ag.refl _ _).setCell (Qd (by simp)) _;have hlen:(F++[(k,l)]).length=F.length+1:=by simp
 have fg:mE B (w2.setCell ⟨ob,0,none⟩ (.slice (some ⟨g,0,none⟩) (F.length+1) cap)) ob w2.heap.size (F++[(k,l)]):=by
  refine⟨⟨_,xs++[.int .i64 k,v],heap_setCell_same ff 0 _,?_,?_,?_⟩,lt_of_block ff⟩
  ·rw[vI,hlen]
   exact Oi.other aZ (fun j hj cs t r hh=>by
    simp at hj;subst hj;rw[ff] at hh;simp at hh;rw[<-hh.2.1];decide)
  ·intro b hb
   exact (Oi.out.lt b hb).2
  intro i b hi hb;exact (Oi.kind hi hb).2.1
 refine⟨ao,c,g,cap,w2,(cell_of_row _ _ 0 _ _ _ h1).trans rfl,hr,(cell_of_row _ _ 0 _ _ _ ff).trans rfl,bJ ff 0,fg,ob :: (Qk ao F.length c).ownBlock.toList,(r3.mono (fun j hj=>Qd (by simp[hj]))).trans aZ (fun j hj=>Qd (by simp at hj;simp[hj])),fun j hj=>?_⟩;rcases Qv.1 hj with q | q
 ·exact Qd q
 refine Qh ⟨(h2.out.lt j (by simpa using q)).1,?_⟩;rcases h2.out.2 with ⟨e,_⟩ | ⟨g',c',cur,e,_,hg,_⟩
 ·rw[e] at q;simp[Qb] at q
 rw[e] at q;simp[Qb] at q;subst q;exact⟨_,_,hg⟩
end Go.Proofs.YtoiflofhcmjpoaaGreat
namespace Go.Proofs.YtoiflofhcmjpoaaGreat
open Go.RowKit Go.Maps
section
variable {ops : Array Oper} {rest : List Oper} {o : Oper} {a : Act} {Q : Exit -> Act -> World -> Prop} {w w' : World} {F : Fence} {nF : Nat}
theorem eU (hg:o.guard=none) (s x:Operand) (t:TypeId) (ho:o.op=.call { callee:=.builtin .append,args:=#[s,x],argTypes:=#[t,t] }) {v u r:Value} (hs:a.eval s=v) (hx:a.eval x=u)
  (hr:(Builtin.append_ #[t,t] o.type #[v,u]).run Tryz.prog w=.ok r w') (hK:wpList Tryz.prog ops Q rest (a.put o.dst r) w'):wpList Tryz.prog ops Q (o :: rest) a w:=by
 refine wpList_plain hg fun K ta=>?_;unfold Oper.wp execOp;simp only[ho,resolve,invoke,builtin,Sem.run_bind,Sem.run_pure,Result.andThen_ok,QU,QL,QO,hs,hx,hr];exact ta _ _ hK
theorem yq (hg:o.guard=none) (s x:Operand) (t:TypeId) (ho:o.op=.call { callee:=.builtin .append,args:=#[s,x],argTypes:=#[t,t] }) {v u r:Value} (hs:a.eval s=v) (hx:a.eval x=u)
  (hr:(Builtin.append_ #[t,t] o.type #[v,u]).run Tryz.prog w=.ok r w') (hK:wpListIn F nF Tryz.prog ops Q rest (a.put o.dst r) w'):wpListIn F nF Tryz.prog ops Q (o :: rest) a w:=by
 refine wpListIn_plain hg fun K ta=>?_;unfold Oper.wpIn;refine⟨by simp[Oper.about,ho,resolve,Target.leads,Sem.run_pure],?_⟩;rw[Oper.semAt_plain F _ _ (by rw[ho];intro c G5;cases G5)];unfold execOp;simp only[ho,resolve,invoke,builtin,Sem.run_bind,Sem.run_pure,Result.andThen_ok,QU,QL,QO,hs,hx,hr];exact ta _ _ hK
variable (w)
theorem mQ (hg:o.guard=none) (m x:Operand) (jM:o.op=Op.lookup 124 m x true) {b n:Nat} {f:Int->Option Int} (h:bK w b n f) (hm:a.eval m=.map (some b))
  {k:Int} (hk:aU k) (hx:a.eval x=.int .i64 k) {v:Int} {t:Bool} (hv:Hid ((f k).getD 0=v)) (ht:Hid ((f k).isSome=t)) (hK:wpListIn F nF Tryz.prog ops Q rest (a.put o.dst (.tuple #[.int .i64 v,.bool t])) w):wpListIn F nF Tryz.prog ops Q (o :: rest) a w:=by
 obtain⟨D,bH,hD⟩:=h;refine wpListIn_lookup_own_ok_int w hg m x _ jM _ _ .i64 bI Tryz.underlying124 Tryz.underlying3 (qf _) b n D hm bH _ _ hx (keyOf_int_mk Tryz.underlying3 hk) (fun c dU _=>?_);obtain⟨h1,h2⟩:=hD k hk;rw[h2,hv.out] at dU;cases dU;rw[h1,ht.out];exact hK
theorem My (hg:o.guard=none) (m x u:Operand) (jM:o.op=Op.mapUpdate 124 m x u) {b n:Nat} {f:Int->Option Int} (h:bK w b n f) (hn:n<maxLen) (hm:a.eval m=.map (some b))
  {k v:Int} (hk:aU k) (hv:aU v) (hx:a.eval x=.int .i64 k) (hu:a.eval u=.int .i64 v)
  (hK:∀ w',bK w' b (n+1) (fun y=>if y=k then some v else f y)->w.grownBy w' (some b)->wpListIn F nF Tryz.prog ops Q rest (a.put o.dst undef) w'):wpListIn F nF Tryz.prog ops Q (o :: rest) a w:=by
 obtain⟨D,bH,hD⟩:=h;refine wpListIn_mapUpdate_own w hg m x u _ jM _ _ bI Tryz.underlying124 _ b n D hm bH hn _ _ _ hx hu (keyOf_int_mk Tryz.underlying3 hk) _ [] (plainElem_int Tryz.underlying3 hv) (fun w' h1 h2=>hK w' ⟨_,h1,fun y hy=>?_⟩ h2);by_cases e:y=k
 ·subst e
  have nS:=bI.key (keyOf_int_mk Tryz.underlying3 hk);rw[has_put_same bH.isMap nS,atKey_put_same bH.isMap nS];simp
 rw[has_put_other (kJ e),atKey_put_other (kJ e)];simp only[if_neg e];exact hD y hy
theorem Iu (hg:o.guard=none) (m x:Operand) (jM:o.op=Op.call { callee:=Callee.builtin Builtin.delete,args:=#[m,x],argTypes:=#[124,3] }) {b n:Nat} {f:Int->Option Int} (h:bK w b n f) (hm:a.eval m=.map (some b))
  {k:Int} (hk:aU k) (hx:a.eval x=.int .i64 k)
  (hK:∀ w',bK w' b n (fun y=>if y=k then none else f y)->w.grownBy w' (some b)->wpListIn F nF Tryz.prog ops Q rest (a.put o.dst (.tuple #[])) w'):wpListIn F nF Tryz.prog ops Q (o :: rest) a w:=by
 obtain⟨D,bH,hD⟩:=h;refine wpListIn_delete_own w hg m x _ _ jM _ bI Tryz.underlying124 _ b n D hm bH _ _ hx (keyOf_int_mk Tryz.underlying3 hk) (fun w' h1 h2=>hK w' ⟨_,h1,fun y hy=>?_⟩ h2.grown);by_cases e:y=k
 ·subst e
  rw[has_del_same,atKey_del_same];simp
 rw[has_del_other (kJ e),atKey_del_other (kJ e)];simp only[if_neg e];exact hD y hy
end
theorem sL {β:Type} {B:Nat} {I:β->World->Prop} (h:∀ s W W' own,I s W->ag own W W'->(∀ j∈own,B<=j/\∀ cs t r,W.heap[j]?≠some (.cells cs t r))->I s W'):OwnFrom B I:=by
 intro s W W' row hs hg hr;refine h s W W' row.toList hs ((ag.refl _ _).grown hg (fun j hj=>Qd (by rw[hj];simp))) (fun j hj=>?_);obtain⟨h1,o,ho,hc⟩:=hr j (by simpa using hj);refine⟨h1,fun cs t r e=>?_⟩;rw[ho] at e;cases e;simp[Obj.isCells] at hc
theorem al.low {w:World} {v:Value} {l:List Int} (h:al w v l) (hl:l≠[]):∃ b off n c,v=.slice (some ⟨b,off,none⟩) n c/\b<w.heap.size:=by
 obtain⟨ao,cap,rfl,-,-,h3⟩:=h;obtain⟨b,off,rfl,h4⟩:=h3 hl;exact⟨b,off,_,_,rfl,World.block_lt_of_cell? _ _ (h4 0 (List.length_pos_iff.2 hl))⟩
theorem sJ {w2 A B:World} {own:List Nat} {Bs rb:Nat} {vd:Value} {ds:List Int} (hd:al w2 vd ds) (Kw:rb<w2.heap.size) (hc:ag own A B) (ho:∀ j∈own,w2.heap.size<=j/\j≠Bs):j8 Bs rb vd ds A B:=by
 refine⟨hc.size,fun h=>?_⟩;obtain⟨h1,h2,h3⟩:=h;refine⟨hc.cell h1 (fun e=>(ho _ e).2 rfl),hc.cell h2 (fun e=>by have:=(ho _ e).1;simp at this;omega),?_⟩;by_cases hl:ds=[]
 ·subst hl
  obtain⟨ao,cap,rfl,-,-,-⟩:=h3;exact⟨ao,cap,rfl,by simp,by simp,by simp⟩
 obtain⟨b,off,n,c,e,hb⟩:=hd.low hl;refine h3.aD hc (fun b' n' c' e' hm=>?_);rw[e] at e';cases e';have:=(ho _ hm).1;simp at this;omega
theorem sf {W:World} {l Bs rb:Nat} {vd:Value} {ds:List Int} {o o':Obj} (ho:W.heap[l]?=some o) (hc:o.isCells=false):j8 Bs rb vd ds W (W.putObj l o'):=by
 have dV:ag [l] W (W.putObj l o'):=(ag.refl _ _).grown (grownBy_putObj' W l o') (fun j hj=>by cases hj;exact Qd (by simp));have bh:∀ {b i:Nat} {v:Value},W.cell? ⟨b,i,none⟩=some v->b≠l:=fun h e=>by
  subst e;unfold World.cell? at h;simp only[ho] at h;cases o <;> simp[Obj.isCells] at hc h
 refine⟨dV.size,fun h=>?_⟩;obtain⟨h1,h2,h3⟩:=h;refine⟨dV.cell h1 (by simpa using bh h1),dV.cell h2 (by simpa using bh h2),?_⟩;obtain⟨ao,cap,rfl,k1,k2,k3⟩:=h3;refine⟨ao,cap,rfl,k1,k2,fun hl=>?_⟩;obtain⟨b,off,rfl,k4⟩:=k3 hl;exact⟨b,off,rfl,fun i hi=>dV.cell (k4 i hi) (by simpa using bh (k4 i hi))⟩
theorem nX {Bs rb:Nat} {vd:Value} {ds:List Int} {A B C:World} (h:j8 Bs rb vd ds A B) (k:j8 Bs rb vd ds B C):j8 Bs rb vd ds A C:=⟨Nat.le_trans h.1 k.1,fun x=>k.2 (h.2 x)⟩
namespace Plain
theorem oy {g:Gr} {p:Pt} (h:p.err g=0) {x:Int} (hx:x∈p.ah):0<=x/\x<2048:=by
 rw[aw] at hx;obtain⟨i,hi,e⟩:=bN hx;have h1:=bX (Pt.aA h).2.2.1 hi;have h2:=Gr.aA (Pt.aA h).1;omega
end Plain
end Go.Proofs.YtoiflofhcmjpoaaGreat
namespace Go.Proofs.YtoiflofhcmjpoaaGreat
open Go.RowKit Go.Maps
def S5 (ds:List Int) (wr:World) (pre:List {x // x∈ds}) (W:World):Prop :=
 ∃ f,bK W wr.heap.size pre.length f/\(∀ y,f y≠none↔y∈pre.map (·.1))/\W.heap[wr.heap.size+1]?=some (.cells #[.map (some wr.heap.size)] 124 (0,0))/\ag [] wr W
theorem S5.own {ds:List Int} {wr:World} {B:Nat} (hB:wr.heap.size+2<=B):OwnFrom B (S5 ds wr) :=
 sL fun s W W' own h hc ho=>by
  obtain⟨f,h1,h2,h3,h4⟩:=h;exact⟨f,h1.aD hc (fun e=>by have:=(ho _ e).1;omega),h2,hc.heap h3 (fun e=>by have:=(ho _ e).1;omega),h4.trans hc (fun j hj=>Qh (by have:=(ho _ hj).1;omega))⟩
theorem nf.fresh {w w':World} {rb:Nat} {T:List (List Int)} {lv pl:Int->Option Int} {ds:List Int} {vt vd:Value} {lb pb n m:Nat} (h:nf w rb T lv pl ds vt vd lb pb n m) (hc:ag [] w w'):nf w' rb T lv pl ds vt vd lb pb n m :=
 ⟨hc.hp h.cells,h.aa.fresh hc,h.leaves.aD hc (by simp),h.place.aD hc (by simp),h.ah.fresh hc⟩
theorem wX {B:Nat} {W W':World} {own:List Nat} (hc:ag own W W') (ho:∀ j∈own,j<B\/∃ cs t r,W.heap[j]?=some (.cells cs t r)):KeepsFrom B W W':=by
 refine⟨hc.size,fun k o hB hk hi=>(hc.block k (lt_of_block hk) (fun e=>?_)).trans hk⟩;rcases ho k e with q | ⟨cs,t,r,q⟩
 ·omega
 rw[hk] at q;cases q;simp[Obj.isCells] at hi
def Made (g:Plain.Gr) (p:Plain.Pt) (aa:List (List Int)) (w2:World) (mb ob rb D Bs:Nat) (pre:List {x // x∈p.ah}) (W:World):Prop :=
 ∃ F f,mE w2.heap.size W ob W.heap.size (Plain.cR aa p.v++F)/\bK W mb p.ah.length f/\(∀ y,f y≠none↔y∈p.ah/\y ∉ Plain.flat F)/\Plain.wh g p aa F (pre.map (·.1)) /\
  W.heap[mb+1]?=some (.cells #[.map (some mb)] 124 (0,0))/\W.heap[w2.heap.size]?=some (.cells #[.pointer (some ⟨rb,0,none⟩)] 175 (0,0))/\W.heap[D]?=some (.deferred (some []))/\ag [] w2 W/\W.heap[Bs]?=some (.cells #[.pointer (some ⟨rb,0,none⟩)] 175 (0,0))
theorem Made.own {g:Plain.Gr} {p:Plain.Pt} {aa:List (List Int)} {w2:World} {mb ob rb D Bs B:Nat} (h2:mb+1<B) (h3:w2.heap.size<B) (h4:D<B) (h5:Bs<B):OwnFrom B (Made g p aa w2 mb ob rb D Bs) :=
 sL fun s W W' own h hc ho=>by
  obtain⟨F,f,k1,k2,k3,k4,k5,k6,k7,k8,k9⟩:=h;exact⟨F,f,(k1.keep hc (fun j hj=>Qh (ho j hj).2)).up hc.size,k2.aD hc (fun e=>by have:=(ho _ e).1;omega),k3,k4,hc.heap k5 (fun e=>by have:=(ho _ e).1;omega),hc.heap k6 (fun e=>by have:=(ho _ e).1;omega),hc.heap k7 (fun e=>by have:=(ho _ e).1;omega),k8.trans hc (fun j hj=>Qh (by have:=(ho _ hj).1;omega)),hc.heap k9 (fun e=>by have:=(ho _ e).1;omega)⟩
def rowLen (W:World) (wb:Nat):Nat:=match W.cell? ⟨wb,1,none⟩ with | some (.slice _ n _)=>n | _=>0
structure uG (g:Plain.Gr) (p:Plain.Pt) (aa:List (List Int)) (w2 W:World) (mb ob rb D wb:Nat) (L0 F:List Plain.bn) (d:Int) (L:List Int) (v:Value) (f:Int->Option Int) (wi:World):Prop where
 box:wi.heap[wb]?=some (.cells #[.int .i64 d,v] 137 (0,0))
 row:aj wi (wb+1) v L
 out:mE w2.heap.size wi ob wb (L0++F)
 left:bK wi mb p.ah.length f
 f:∀ y,f y≠none↔y∈p.ah/\y ∉ Plain.flat F/\y ∉ L
 Mj:wi.heap[mb+1]?=some (.cells #[.map (some mb)] 124 (0,0))
 LB:wi.heap[w2.heap.size]?=some (.cells #[.pointer (some ⟨rb,0,none⟩)] 175 (0,0))
 dfr:wi.heap[D]?=some (.deferred (some []))
 aD:ag [mb] W wi
theorem uG.len {g:Plain.Gr} {p:Plain.Pt} {aa:List (List Int)} {w2 W:World} {mb ob rb D wb:Nat} {L0 F:List Plain.bn} {d:Int} {L:List Int} {v:Value} {f:Int->Option Int} {wi:World} (h:uG g p aa w2 W mb ob rb D wb L0 F d L v f wi):rowLen wi wb=L.length:=by
 obtain⟨ao,c,e⟩:=h.row.shape;have hb:=h.box;rw[e] at hb;unfold rowLen;rw[(cell_of_row _ _ 1 _ _ _ hb).trans (show _=some (Qk ao L.length c) from rfl)]
theorem uG.step {g:Plain.Gr} {p:Plain.Pt} {aa:List (List Int)} {w2 W:World} {mb ob rb D:Nat} {L0 F:List Plain.bn} {d z:Int} {L:List Int} {v v':Value} {f:Int->Option Int} {wi w6 w7:World} (h:uG g p aa w2 W mb ob rb D W.heap.size L0 F d L v f wi)
  (h1:mb+1<W.heap.size) (h2:D<W.heap.size) (h3:w2.heap.size<W.heap.size) (hg:wi.grownBy w6 (some mb)) (hm:bK w6 mb p.ah.length (fun y=>if y=z then none else f y)) (hr:aj w7 (W.heap.size+1) v' (L++[z])) (hc:ag (aE v) w6 w7) :
  uG g p aa w2 W mb ob rb D W.heap.size L0 F d (L++[z]) v' (fun y=>if y=z then none else f y) (w7.setCell ⟨W.heap.size,1,none⟩ v'):=by
 have c1:ag [mb] wi w6:=(ag.refl _ _).grown hg (fun j hj=>by cases hj;exact Qd (by simp));have c3:ag [W.heap.size] w7 (w7.setCell ⟨W.heap.size,1,none⟩ v'):=(ag.refl _ _).setCell (Qd (by simp)) _;have low:∀ j∈aE v,W.heap.size+1<=j:=fun j hj=>(h.row.low j (by rw[<-h.row.aE];exact hj)).1;have heap:∀ {b:Nat} {o:Obj},wi.heap[b]?=some o->b≠mb->b<W.heap.size->(w7.setCell ⟨W.heap.size,1,none⟩ v').heap[b]?=some o:=fun hb bh aL =>
  c3.heap (hc.heap (c1.heap hb (by simpa using bh)) (fun e=>by have:=low _ e;omega)) (by simp;omega)
 have O1:=hc.heap (c1.heap h.box (by simp;omega)) (fun e=>by have:=low _ e;omega);have AQ:∀ {b:Nat} {cs:Array Value} {t:TypeId} {r:Nat × Nat},wi.heap[b]?=some (.cells cs t r)->b≠mb:=fun hb=>h.left.ne hb;refine⟨heap_setCell_same O1 1 v',hr.aD c3 (fun b hb e=>by have:=(hr.low b hb).1;simp at e;omega),((h.out.keep c1 (fun j hj=>Qh (fun cs t r e=>by simp at hj;subst hj;exact h.left.ne e rfl))).keep hc (fun j hj=>Qd (by have:=low j hj;omega))).keep c3 (fun j hj=>Qd (by simp at hj;omega)),
  (hm.aD hc (fun e=>by have:=low _ e;omega)).aD c3 (by simp;omega),fun y=>?_,heap h.Mj (by omega) h1,heap h.LB (AQ h.LB) h3,heap h.dfr (fun e=>?_) h2,((h.aD.trans c1 (fun j hj=>Qd hj)).trans hc (fun j hj=>Qh (by have:=low j hj;omega))).trans c3 (fun j hj=>Qh (by simp at hj;omega))⟩
 ·by_cases e:y=z
  ·rw[if_pos e,e];simp
  rw[if_neg e,h.f y];simp[e]
 obtain⟨Dm,⟨es,clock,he,_⟩,_⟩:=h.left;have:=h.dfr;rw[e,he] at this;cases this
section
attribute [local go_sem] Oper.semAt_some
set_option maxRecDepth 100000 in
set_option maxHeartbeats 4000000 in
theorem Jm (vg vp vt:Value) (g:Plain.Gr) (p:Plain.Pt) (aa:List (List Int)) (w:World) (qM:p.e.length<=1000000) (wB:p.v.length<=1000000) (DK:aa.length<2147483648) (hS:Plain.bU aa aa.length<2147483648) (hg:dJ w vg g) (hp:fL w vp p) (ht:cf w vt aa) :
  Calls Tryz.prog 101 #[vg,vp,vt] w fun e w'=>∃ ov,e=.returned (.tuple #[ov,.int .i64 (Plain.bB g p aa)])/\(Plain.bB g p aa≠0->ov=.slice none 0 0) /\
   (Plain.bB g p aa=0->∃ W xs,Plain.dy g p aa W/\bu w' w.heap.size 137 2 ov W.length xs (eV W))/\ag [] w w':=by
 have HG:=lh hg;have HP:=lh hp;have HT:=lh ht;have rn:=lh hS;obtain⟨eo,cap,rfl,-,-,-,-⟩:=hg;obtain⟨v1,v2,rfl,hv,he⟩:=hp;obtain⟨ao,ac,rfl,has,CR,jy⟩:=hv;obtain⟨bo,bc,rfl,-,-,-⟩:=he;obtain⟨PX,tc,rfl,wu,wY⟩:=ht;have Bq:=lh jy;have S4:=lh has;have Pb:=lh wY;obtain⟨fz,ff,cY⟩:=eZ w #[.int .i64 g.n,.slice eo g.e.length cap] #[.slice ao p.v.length ac,.slice bo p.e.length bc] 24 27;have Y0:=lh ((cell_of_row _ _ 0 _ _ _ ff).trans (show _=some (Qk ao p.v.length ac) from rfl));have b8:=lh cY;clear jy has fz ff cY wY hS;refine (callsIn_wide (n:=9)).1 (callsIn_of_wp_marks Tryz.func101 rfl trivial (wpIn_wide.2 ?_) rfl);simp only[Tryz.ntmps101,QP,QS,QY,Q0,Q2,QG,QH,QQ,QJ,QZ,QT]
 go_wp2_with fail
 refine (Bt _ _ _ g p aa _ qM wB DK rn.out (HG.out.fresh b8.out) (HP.out.fresh b8.out) (HT.out.fresh b8.out)).mono ?_;rintro e w2 ⟨r,rfl,fQ,fh,bA⟩;have cB:=lh (b8.out.tr bA);have wV:=lh (show w.heap.size+2<=w2.heap.size by have:=bA.size;simpa using this);have Y2:=lh (bA.dp Y0.out);clear bA;by_cases hr:Plain.bB g p aa=0
 ·have HR:=lh hr
  obtain⟨rb,O0,vd,lb,pb,n,m,rfl,Kw,A9⟩:=fh hr;have lQ:=lh A9;have Aw:=lh Kw;have y2:=bP Y2.out (.cells #[.pointer (some ⟨rb,0,none⟩)] 175);have y3:=bP y2 (.cells #[.slice none 0 0] 134);rw[hr];clear fQ fh A9 Kw;go_wp2;clear y2 y3;have pj:=lh (show w2.heap.size+2=((w2.alloc (.cells #[.pointer (some ⟨rb,0,none⟩)] 175)).alloc (.cells #[.slice none 0 0] 134)).heap.size by simp);have cU:=lh (((ag.refl [] w2).alloc (.cells #[.pointer (some ⟨rb,0,none⟩)] 175)).alloc (.cells #[.slice none 0 0] 134));have agA:=lh ((eZ w2 #[.pointer (some ⟨rb,0,none⟩)] #[.slice none 0 0] 175 134).1);have Ew:=lh ((eZ w2 #[.pointer (some ⟨rb,0,none⟩)] #[.slice none 0 0] 175 134).2.1);obtain⟨ob,qz⟩:∃ ob,w2.heap.size+1=ob:=⟨_,rfl⟩;rw[qz] at Ew ⊢;have FV:=lh qz;have pk:=lh (show mE w2.heap.size ((w2.alloc (.cells #[.pointer (some ⟨rb,0,none⟩)] 175)).alloc (.cells #[.slice none 0 0] 134)) ob (ob+1) [] from⟨⟨_,[],Ew.out,bu.nil _ _ _ _,by simp[Qb],by simp⟩,by omega⟩);generalize ((w2.alloc (.cells #[.pointer (some ⟨rb,0,none⟩)] 175)).alloc (.cells #[.slice none 0 0] 134))=w3 at *;clear qz
  go_loopw [11] (fun c wr=>∃ k:Nat,k<=p.v.length/\c=.int .i64 ((k:Int) - 1)/\mE w2.heap.size wr ob wr.heap.size (Plain.cR aa (p.v.drop k))/\ag [] w2 wr/\Hid (wr.heap[w2.heap.size]?=some (.cells #[.pointer (some ⟨rb,0,none⟩)] 175 (0,0)))) (fun c _=>(intOf c+1).toNat)
  case atStart=>exact⟨p.v.length,Qw _,by go_num,by rw[List.drop_length];exact pk.out.up (by have:=pj.out;have:=FV.out;omega),cU.out,agA⟩
  case round =>
   obtain⟨k,hk,rfl,tp,hc,Zp⟩:=hrel;have HW:=lh tp;have HC:=lh hc;by_cases h0:0<k
   ·obtain⟨j,rfl⟩:∃ j,k=j+1:=⟨k - 1,by omega⟩
    obtain⟨ab,xB,rfl,kU⟩:=Bq.out (by intro e;rw[e] at hk;simp at hk);have AF:=HC.out.dp (cB.out.dp (kU j hk));rw[show (((j+1:Nat):Int) - 1)=(j:Int) by omega];obtain⟨dm,vx⟩:=Plain.dQ HR.out;have La:=Plain.Pt.ay dm;have Fb:=La.vr (p.v.getD j 0) (by simp[Qs,show j<p.v.length by omega]);obtain⟨v,K0⟩:∃ v:Nat,p.v.getD j 0=(v:Int):=⟨(p.v.getD j 0).toNat,by omega⟩;have HDR:=lh (show Plain.cR aa (p.v.drop j)=Plain.cR aa (p.v.drop (j+1))++(if (aa.getD v []).isEmpty then [(-1 - (v:Int),[])] else []) by
     rw[List.drop_eq_getElem_cons (show j<p.v.length by omega),Plain.BN];have e1:p.v[j]=(v:Int):=by rw[<-K0];simp[Qs,show j<p.v.length by omega]
     rw[e1];unfold Plain.az;simp)
    have Uc:v<aa.length:=by have:=vx.len;omega
    have hvg:(v:Int)<=1024:=by have:=(Plain.Gr.aA (Plain.Pt.aA dm).1).2.1;omega
    rw[K0] at AF;obtain⟨tb,IB,u,rfl,hu,-,hints⟩:=Pb.out v Uc;have hcu:=HC.out.dp (cB.out.dp hu);obtain⟨l,l6⟩:∃ l,aa.getD v []=l:=⟨_,rfl⟩;rw[l6] at hints HDR;obtain⟨uo,uc,rfl,-,-,-⟩:=hints;have hy:=HC.out.dp Y2.out;have rj:j<p.v.length:=by omega
    have wF:(Plain.cR aa (p.v.drop (j+1))).length<=p.v.length:=by
     unfold Plain.cR;rw[Qe];refine Q6 (QF _ _) ?_;rw[QK,List.length_drop];omega
    clear kU dm vx La Fb K0 hu l6 hc h0;cases l with
    | nil =>
     obtain⟨TS,c',g',eP,w5,p1,p2,p3,p4,p5,own,p6,p7⟩:=tp.push HC.out.size (by have:=FV.out;omega) (-1 - (v:Int)) (v:=.slice none 0 0) (l:=[]) ⟨World.ownsRow_nil _ _ _ _,by simp,by simp⟩ (by simp[aE,Qb]) (by omega);have P5:=lh p5;have P6:=lh p6;have P7:=lh p7;clear p5 p6 p7 tp;generalize Plain.cR aa (p.v.drop (j+1))=F0 at *;have pZ:=lh p2;clear p2;have eh:∀ {own:List Nat},Hid (∀ j∈own,j=ob\/(w2.heap.size<=j/\∃ cs r,wr.heap[j]?=some (.cells cs 137 r)))->Hid (wr.heap[w2.heap.size]?=some (.cells #[.pointer (some ⟨rb,0,none⟩)] 175 (0,0)))->w2.heap.size ∉ own:=fun h1 h2 e=>by
      rcases h1.out _ e with q | ⟨-,cs,r,q⟩
      ·have:=FV.out;omega
      rw[h2.out] at q;simp at q
     have kF:=lh (eh P7 Zp);clear eh
     go_wp2_with (at_builtin;refine eU rfl (.tmp 50) (.tmp 54) _ rfl rfl rfl pZ.out ?_)
     have fX:∀ j∈own,w2.heap.size<=j:=fun j hj=>by
      rcases P7.out j hj with q | ⟨q,-⟩
      ·have:=FV.out;omega
      exact (by assumption)
     go_roundw
     case rel=>exact⟨j,by omega,rfl,by rw[HDR.out];exact P5.out.up (by simp[Q3]),HC.out.trans P6.out (fun j hj=>Qh (fX j hj)),lh (P6.out.heap Zp.out kF.out)⟩
     case measure=>simp[intOf]
    | cons d0 l0 =>
     go_wp2
     go_roundw
     case rel=>exact⟨j,by omega,rfl,by rw[HDR.out];simpa using HW.out,HC.out,Zp⟩
     case measure=>simp[intOf]
   obtain rfl:k=0:=by omega
   generalize wr=wa at *;rw[List.drop_zero] at tp HW;have mY:=@run_makeMap Tryz.prog;have Cp:=(cell_of_row _ _ 0 _ _ _ Zp.out).trans (show _=some (QM (some ⟨rb,0,none⟩)) from rfl);have abd:=fun o=>bP Cp o;have ahH:=fun o o'=>bP (abd o) o';clear tp hc
   go_wp2_with fail
   refine (x8 rb _).mono ?_;rintro e w5 ⟨rfl,hw5⟩;have NK:((wa.alloc (.map #[] 0)).alloc (.cells #[.map (some wa.heap.size)] 124)).heap.size=wa.heap.size+2:=by simp
   have VF:w5.heap.size=wa.heap.size+3:=by rw[hw5];simp
   rw[NK];have dm:=(Plain.dQ HR.out).1;have jN:=lh (Plain.Pt.ay dm);have HTO:=lh (Plain.dQ HR.out).2;have OY:=lh (fun (x:Int) (hx:x∈p.ah)=>Plain.oy dm hx);have HMB:=lh (show bK w5 wa.heap.size 0 (fun _=>none) by rw[hw5];exact ((bK.made wa).alloc _).alloc _);have HLB:=lh (show w5.heap[wa.heap.size+1]?=some (.cells #[.map (some wa.heap.size)] 124 (0,0)) by
    rw[hw5];have:=heap_alloc_new (wa.alloc (.map #[] 0)) (.cells #[.map (some wa.heap.size)] 124);simp only[World.size_alloc] at this;exact (((ag.refl [] _).alloc _).hp this))
   have Ko:=lh (show w5.cell? ⟨wa.heap.size+2,0,none⟩=some (.pointer (some ⟨rb,0,none⟩)) by
    rw[hw5];have:=heap_alloc_new ((wa.alloc (.map #[] 0)).alloc (.cells #[.map (some wa.heap.size)] 124)) (.cells #[.pointer (some ⟨rb,0,none⟩)] 175);rw[NK] at this;exact (cell_of_row _ _ 0 _ _ _ this).trans rfl)
   have ga:=lh (show ag [] wa w5 by rw[hw5];exact (((ag.refl [] wa).alloc _).alloc _).alloc _);have Aj:=lh lQ.out.ah;have HRC:=lh ((cell_of_row _ _ 3 _ _ _ lQ.out.cells).trans (show _=some vd from rfl));have HIT:=lh (show uL w5 (wa.heap.size+2) rb vd (p.ah.attach.map (·.1)) by
    rw[Qc];exact⟨Ko.out,(HC.out.tr ga.out).dp HRC.out,Aj.out.fresh (HC.out.tr ga.out)⟩)
   have ad4:=lh (lt_of_block lQ.out.cells);have En:=lh (show w2.heap.size<=wa.heap.size from HC.out.size);have zR:p.ah.length<=2000000:=by rw[Plain.bL];omega
   clear hw5 NK mY Cp abd ahH h0 hk dm;go_wp2;refine (wpIn_wide (n:=9)).1 ?_;refine wpIn_rangeFunc_ownG rfl (by decide) (gf:=186) (lb:=#[.pointer (some ⟨wa.heap.size+2,0,none⟩)]) rfl trivial (enters_of Tryz.func186 (by kernel_rfl) rfl)
    (sI {x // x∈p.ah} (·.1) 8 (by decide) (wa.heap.size+2) rb vd p.ah.attach (by rw[Qn];omega) w5 HIT.out) nX (fun W l o o' _ h1 h2 _=>sf h1 h2) (Below.refl _ _) (fun _=>rfl)
    (S5 p.ah wa) (fun _ _ _=>False) (S5.own (by omega))
    (fun _ _ _ _ _ hs _ _=>hs)
    ⟨_,HMB.out,by simp,HLB.out,ga.out⟩ ?a1 ?assign ?body ?done ?stop
   case assign =>
    intro l x W K hK
    gi_wp2
    exact hK
   case body =>
    rintro l pre x W ⟨f,hm,hf,Le,uJ⟩ aL;have HF:=lh hf;have HM:=lh hm;have HLW:=lh Le;have zB:=lh uJ;have KT:=(cell_of_row _ _ 0 _ _ _ Le).trans (show _=some (QR (some wa.heap.size)) from rfl);obtain⟨x,hx⟩:=x;have HX:=lh hx;have IX:aU x:=aU.mk (by have:=(OY.out x hx).1;omega) (by have:=(OY.out x hx).2;omega);have akn:pre.length<maxLen:=by rw[Qn] at aL;unfold maxLen;omega
    clear hf hm Le uJ aL;dsimp only
    gi_wp2_with (gi_at_mapUpdate;refine My _ rfl _ _ _ rfl HM.out akn rfl IX IX rfl rfl ?_;intro w6 m6 g6;have M6:=lh m6;have G6:=lh g6;clear m6 g6)
    exact⟨KeepsFrom.of_grownBy G6.out (fun j e=>by cases e;omega),
     sJ (w2:=w2) (by rw[Qc];exact Aj.out) ad4.out ((ag.refl [wa.heap.size] W).grown G6.out (fun j hj=>by cases hj;exact Qd (by simp))) (fun j hj=>by have:=En.out;simp at hj;omega),
     _,by rw[Qi];exact M6.out,fun y=>by
      rw[Qr,Qa];by_cases e:y=x
      ·subst e;simp
      rw[if_neg e];simp only[QL,QO,Qf,e,or_false];exact HF.out y,
     ((ag.refl [wa.heap.size] W).grown G6.out (fun j hj=>by cases hj;exact Qd (by simp))).heap HLW.out (by simp),
     zB.out.grown G6.out (fun j hj=>by cases hj;exact Qh (Qw _))⟩
   case done =>
    rintro D ys W hD rfl ⟨f,hm,hf,Le,uJ⟩ hK;have PZ:=lh hK;have qh:=lh (HC.out.tr uJ);have rh:=lh (lt_of_block hK);have HOF:=lh ((HW.out.fresh uJ).up uJ.size);have Yb:=lh (uJ.hp Zp.out);have HMF:=lh hm;have HFF:=lh hf;have ZN:=lh Le;have TR:=lh (show wa.heap.size+3<=W.heap.size by have:=lt_of_block hK;omega);have Cp:=(cell_of_row _ _ 0 _ _ _ Yb.out).trans (show _=some (QM (some ⟨rb,0,none⟩)) from rfl);clear hm hf Le uJ;generalize W=wf at *
    go_wp2_with fail
    refine (x8 rb _).mono ?_;rintro e w7 ⟨rfl,hw7⟩;have as0:w7.heap.size=wf.heap.size+1:=by rw[hw7];simp
    have pX:=lh (show ag [] wf w7 by rw[hw7];exact (ag.refl [] wf).alloc _);have aiv:=lh (show uL w7 wf.heap.size rb vd (p.ah.attach.map (·.1)) by
     rw[Qc];refine⟨?_,(qh.out.tr pX.out).dp HRC.out,Aj.out.fresh (qh.out.tr pX.out)⟩;rw[hw7];exact (cell_of_row _ _ 0 _ _ _ (heap_alloc_new wf _)).trans rfl)
    have B9:=lh (show Made g p aa w2 wa.heap.size ob rb D wf.heap.size [] w7 from
     ⟨[],_,by rw[QX];exact (HOF.out.fresh pX.out).up pX.out.size,by have:=HMF.out.aD pX.out (by simp);rwa[Qn] at this,fun y=>by rw[HFF.out y,Qc];simp[Plain.flat],Plain.wh.start g p aa,pX.out.hp ZN.out,pX.out.hp Yb.out,pX.out.hp PZ.out,qh.out.tr pX.out,by rw[hw7];exact heap_alloc_new wf _⟩)
    clear hw7 Cp hK;go_wp2;refine (wpIn_wide (n:=9)).1 ?_;refine wpIn_rangeFunc_ownG rfl (by decide) (gf:=186) (lb:=#[.pointer (some ⟨wf.heap.size,0,none⟩)]) rfl trivial (enters_of Tryz.func186 (by kernel_rfl) rfl)
     (sI {x // x∈p.ah} (·.1) 8 (by decide) wf.heap.size rb vd p.ah.attach (by rw[Qn];omega) w7 aiv.out) nX (fun W l o o' _ h1 h2 _=>sf h1 h2) (Below.refl _ _) (fun _=>rfl)
     (Made g p aa w2 wa.heap.size ob rb D wf.heap.size) (fun _ _ _=>False) (Made.own (by have:=TR.out;omega) (by have:=TR.out;have:=En.out;omega) (by have:=rh.out;omega) (by omega))
     (fun _ _ _ _ _ hs _ _=>hs) B9.out ?a2 ?assign2 ?body2 ?done2 ?stop2
    case assign2 =>
     intro l x W K hK
     gi_wp2
     exact hK
    case body2 =>
     rintro l pre x W ⟨F,f,k1,k2,k3,k4,k5,k6,k7,k8,k9⟩ aL;obtain⟨x,hx⟩:=x;dsimp only;have K1:=lh k1;have K2:=lh k2;have K3:=lh k3;have K4:=lh k4;have K5:=lh k5;have K6:=lh k6;have K7:=lh k7;have K8:=lh k8;have K9:=lh k9;have HX:=lh hx;have V9:=OY.out x hx;have IX:aU x:=aU.mk (by omega) (by omega);have ag5:=lh (show al w2 vd (p.ah.attach.map (·.1)) by rw[Qc];exact Aj.out);have KT:=(cell_of_row _ _ 0 _ _ _ k5).trans (show _=some (QR (some wa.heap.size)) from rfl);have HPL:=lh (show pre.length<=p.ah.length by rw[Qn] at aL;omega);clear k1 k2 k3 k4 k5 k6 k7 k8 k9 aL;by_cases P8:x∈Plain.flat F
     ·have Yb:=lh P8
      have Tq:=lh (show f x=none from Qz fun h=>((K3.out x).1 h).2 P8);have HV:Hid ((f x).getD 0=0):=lh (by rw[Tq.out];rfl);have HT:Hid ((f x).isSome=false):=lh (by rw[Tq.out];rfl);clear P8
      gi_wp2_with (gi_at_lookup;refine mQ _ rfl _ _ rfl K2.out rfl IX rfl HV HT ?_)
      exact⟨KeepsFrom.refl _ _,⟨Nat.le_refl _,id⟩,F,f,K1.out,K2.out,K3.out,by rw[Qr];exact K4.out.skip Yb.out,K5.out,K6.out,K7.out,K8.out,K9.out⟩
     have Yb:=lh P8;obtain⟨u,hu⟩:∃ u,f x=some u:=Option.ne_none_iff_exists'.1 ((K3.out x).2 ⟨hx,P8⟩);have HV:Hid ((f x).getD 0=u):=lh (by rw[hu];rfl);have HT:Hid ((f x).isSome=true):=lh (by rw[hu];rfl);clear P8 hu;have ail:=fun o=>bP KT o
     gi_wp2_with (gi_at_lookup;refine mQ _ rfl _ _ rfl K2.out rfl IX rfl HV HT ?_)
     have hsw:wa.heap.size+1<W.heap.size:=lt_of_block K5.out;have hsd:D<W.heap.size:=lt_of_block K7.out;have Dg:w2.heap.size<W.heap.size:=lt_of_block K6.out;have wv:=lh ((ag.refl [wa.heap.size] W).alloc (.cells #[.int .i64 x,.slice none 0 0] 137));have TJ:=lh ((ag.refl [] W).alloc (.cells #[.int .i64 x,.slice none 0 0] 137));have xa:=lh (show uG g p aa w2 W wa.heap.size ob rb D W.heap.size (Plain.cR aa p.v) F x [] (.slice none 0 0) f (W.alloc (.cells #[.int .i64 x,.slice none 0 0] 137)) from
      ⟨heap_alloc_new W _,⟨World.ownsRow_nil _ _ _ _,by simp,by simp⟩,K1.out.fresh TJ.out,K2.out.alloc _,fun y=>by rw[K3.out y];simp,TJ.out.hp K5.out,TJ.out.hp K6.out,TJ.out.hp K7.out,wv.out⟩)
     clear ail KT TJ wv
     gi_loopw [19,20] (fun c19 c20 wi=>∃ (L:List Int) (z:Int) (ok:Bool) (v:Value) (f:Int->Option Int),c19=.int .i64 z/\c20=.bool ok/\uG g p aa w2 W wa.heap.size ob rb D W.heap.size (Plain.cR aa p.v) F x L v f wi/\Hid (Plain.SB g p aa F x L z)/\Hid (ok=true↔(z ∉ Plain.flat F/\z ∉ L))/\Hid (L=[]->ok=true)) (fun _ _ wi=>p.ah.length - rowLen wi W.heap.size)
     case atStart=>exact⟨[],x,true,_,f,rfl,rfl,xa.out,lh (Plain.SB.start hx),lh (by simp[Yb.out]),lh (fun _=>rfl)⟩
     case round =>
      obtain⟨L,z,ok,v,f,rfl,rfl,tp,wI,iL,hL⟩:=hrel;have pk:=lh tp;cases ok with
      | true =>
       obtain⟨zn,hzn⟩:∃ zn:Nat,z=(zn:Int):=⟨z.toNat,by have:=(OY.out z wI.out.mem).1;omega⟩;subst hzn;obtain⟨va,vc,rfl⟩:=tp.row.shape;have cb:=(cell_of_row _ _ 1 _ _ _ tp.box).trans (show _=some (Qk va L.length vc) from rfl);have cl:=(cell_of_row _ _ 0 _ _ _ tp.Mj).trans (show _=some (QR (some wa.heap.size)) from rfl);have HZD:=lh wI.out.mem;have hzr:=OY.out (zn:Int) wI.out.mem;have IZ:aU (zn:Int):=aU.mk (by omega) (by omega);have XD:=iL.out.1 rfl;have Yk:=lh XD;have hLd:L.length+1<=p.ah.length:=by
        have:=Plain.bS (l:=(zn:Int) :: L) (m:=p.ah) (List.nodup_cons.2 ⟨XD.2,wI.out.nodup⟩) (fun y hy=>by
         rcases Qv.1 hy with q | q
         ·rw[q];exact HZD.out
         exact (wI.out.sub y q).1)
        simpa using this
       have XR:=lh (lt_of_block tp.box);clear tp XD
       gi_wp2_with (first
        | (gi_at_delete;refine Iu _ rfl _ _ rfl pk.out.left rfl IZ rfl ?_;intro w6 m6 g6;have M6:=lh m6;have G6:=lh g6;have C6:=lh (show ag [wa.heap.size] wr w6 from (ag.refl _ _).grown g6 (fun j hj=>by cases hj;exact Qd (by simp)));have cb6:=C6.out.cell cb (by simp;omega);clear m6 g6)
        | (gi_at_builtin;obtain⟨v',w7,OK,r7,c7,f7⟩:=gD (w:=w6.alloc (.cells #[.int .i64 (zn:Int)] 3)) (B:=W.heap.size+1) (v:=.slice va L.length vc) (l:=L) (m:=[(zn:Int)]) (u:=.slice (some ⟨w6.heap.size,0,none⟩) 1 1) (pk.out.row.aD (C6.out.alloc _) (fun b hb e=>by have:=(pk.out.row.low b hb).1;simp at e;omega)) (fT w6 IZ) (by have:=XR.out;have:=C6.out.size;simp;omega) (by simp;omega) 25;refine yq rfl (.tmp 87) (.tmp 89) _ rfl rfl rfl OK ?_;obtain⟨mg,l8,e7⟩:=r7.shape;obtain rfl:v'=.slice mg (L.length+1) l8:=(by rw[e7];simp);have R7:=lh r7;have C7:=lh (show ag (aE (.slice va L.length vc)) w6 w7 from ((ag.refl _ w6).alloc _).trans c7 (fun j hj=>Qd hj));have O1:=C7.out.heap (C6.out.heap pk.out.box (by simp;omega)) (fun e=>by have:=(pk.out.row.low _ (by rw[<-pk.out.row.aE];exact e)).1;omega);have cb7:=(cell_of_row _ _ 1 _ _ _ O1).trans (show _=some (Qk va L.length vc) from rfl);have z7:=bJ O1 1;have SQ:=lh (pk.out.step hsw hsd Dg G6.out M6.out R7.out C7.out);have cr8:=(cell_of_row _ _ 0 _ _ _ SQ.out.LB).trans (show _=some (QM (some ⟨rb,0,none⟩)) from rfl);have cl8:=(cell_of_row _ _ 0 _ _ _ SQ.out.Mj).trans (show _=some (QR (some wa.heap.size)) from rfl);clear OK r7 c7 f7 O1 e7))
       generalize (w7.setCell ⟨W.heap.size,1,none⟩ (.slice mg (L.length+1) l8))=w8 at *;clear cb cl cb6 cb7 z7;have HMX:=lh (show ∀ j∈[wa.heap.size],j∈([]:List Nat)\/w2.heap.size<=j from fun j hj=>Qh (by have:=En.out;simp at hj;omega));refine⟨trivial,?_⟩;refine (CallsIn.inRound l (callsIn_wide.2 (Jv rb g p aa O0 vd lb pb n m zn w8 jN.out HTO.out DK rn.out HZD.out (by omega) (lQ.out.fresh (K8.out.trans SQ.out.aD HMX.out))))).mono ?_;rintro e w9 ⟨rfl,rfl⟩;have nt:=wI.out.step jN.out HTO.out Yk.out.1 Yk.out.2;obtain⟨nx,hnx⟩:∃ nx:Nat,Plain.aG g aa (zn:Int)=(nx:Int):=⟨(Plain.aG g aa (zn:Int)).toNat,by have:=(OY.out _ nt.mem).1;omega⟩;rw[hnx] at nt ⊢;have O7:=(OY.out _ nt.mem).2;have IN:aU (nx:Int):=aU.mk (by omega) (by omega);have EJ:=lh nt;obtain⟨u9,hu9⟩:∃ u9,(if (nx:Int)=(zn:Int) then none else f nx).getD 0=u9:=⟨_,rfl⟩;obtain⟨ok9,Xf⟩:∃ ok9,(if (nx:Int)=(zn:Int) then none else f nx).isSome=ok9:=⟨_,rfl⟩;have HV9:Hid (((fun y=>if y=(zn:Int) then none else f y) (nx:Int)).getD 0=u9):=lh hu9;have HT9:Hid (((fun y=>if y=(zn:Int) then none else f y) (nx:Int)).isSome=ok9):=lh Xf;have akc:=lh (show ok9=true↔((nx:Int) ∉ Plain.flat F/\(nx:Int) ∉ L++[(zn:Int)]) by
        rw[<-Xf,Option.isSome_iff_ne_none,SQ.out.f];exact⟨fun h=>h.2,fun h=>⟨nt.mem,h⟩⟩)
       have ki:=lh (show rowLen w8 W.heap.size=L.length+1 by rw[SQ.out.len];simp);clear hu9 Xf nt hnx
       gi_wp2_with (gi_at_lookup;refine mQ _ rfl _ _ rfl SQ.out.left rfl IN rfl HV9 HT9 ?_)
       go_roundw
       case rel=>exact⟨L++[(zn:Int)],(nx:Int),ok9,_,_,rfl,rfl,SQ.out,EJ,akc,lh (by simp)⟩
       case measure=>rw[ki.out,pk.out.len];omega
      | false =>
       have aa3:L≠[]:=fun e=>by have:=hL.out e;cases this
       have YB:z∈Plain.flat F\/z∈L:=Qz fun h=>by
        have h1:z ∉ Plain.flat F:=fun e=>h (Qd e);have h2:z ∉ L:=fun e=>h (Qh e);have:=iL.out.2 ⟨h1,h2⟩;cases this
       have ala:=lh (K4.out.add wI.out.nodup wI.out.sub (wI.out.ring jN.out HTO.out K4.out aa3 YB));clear aa3 YB hL iL;obtain⟨va,vc,rfl⟩:=tp.row.shape;have cb0:=(cell_of_row _ _ 0 _ _ _ tp.box).trans (show _=some (Q4 .i64 x) from rfl);have cb:=(cell_of_row _ _ 1 _ _ _ tp.box).trans (show _=some (Qk va L.length vc) from rfl);have T8:(Plain.cR aa p.v++F).length<1000000000:=by
        have h1:(Plain.cR aa p.v).length<=p.v.length:=by
         unfold Plain.cR;rw[Qe];refine Q6 (QF _ _) ?_;rw[QK];exact Qw _
        have h2:=K4.out.keys.length_le;rw[Qe,Qe] at h2;have h3:=HPL.out;rw[Qi];omega
       have ajp:=lh tp.out.ex;obtain⟨TS,c',g',eP,w5',p1,p2,p3,p4,p5,own,p6,p7⟩:=tp.out.push (by have:=K8.out.size;have:=tp.aD.size;omega) (by have:=FV.out;omega) x (tp.row.base (by omega)) (fun j hj=>by have:=(tp.row.low j (by rw[<-tp.row.aE];exact hj)).1;omega) T8;have pZ:=lh p2;have P5:=lh p5;have P6:=lh p6;have P7:=lh p7;have Rb:=lh HW.out.lt;clear p2 p5 p6 p7 tp wI;generalize X6:Plain.cR aa p.v++F=F0 at *;have OV:=lh X6;clear X6
       gi_wp2_with (gi_at_builtin;refine yq rfl (.tmp 98) (.tmp 100) _ rfl rfl rfl pZ.out ?_)
       have oe:∀ {b:Nat} {o:Obj},wr.heap[b]?=some o->b≠ob->(∀ cs r,o≠.cells cs 137 r)->b ∉ own:=fun hb bh ht e=>by
        rcases P7.out _ e with q | ⟨-,cs,r,q⟩
        ·exact bh q
        rw[hb] at q;cases q;exact ht _ _ rfl
       obtain⟨ov0,xs0,aiF,-⟩:=ajp.out;have ajD:D≠ob:=fun e=>by have:=pk.out.dfr;rw[e,aiF] at this;cases this
       have ag1:wa.heap.size ∉ own:=fun e=>by
        rcases P7.out _ e with q | ⟨-,cs,r,q⟩
        ·have:=Rb.out;omega
        exact pk.out.left.ne q rfl
       have TO:wf.heap.size≠wa.heap.size:=by have:=TR.out;omega
       have acT:=pk.out.aD.heap K9.out (by simpa using TO);have alb:wf.heap.size≠ob:=by have:=Rb.out;have:=TR.out;omega
       have Ic:∀ j∈own,w2.heap.size<=j:=fun j hj=>by
        rcases P7.out _ hj with q | ⟨q,-⟩
        ·have:=FV.out;omega
        exact q
       have aar:wf.heap.size ∉ own:=oe acT alb (fun cs r e=>by cases e);have adB:ag ((wa.heap.size :: own).filter fun j=>decide (j<W.heap.size)) W _:=((pk.out.aD.mono (gH:=wa.heap.size :: own) (fun j hj=>Qd (by simp at hj;simp[hj]))).trans P6.out (fun j hj=>Qd (by simp[hj]))).mono (fun j hj=>by
        by_cases q:j<W.heap.size
        ·exact Qd (QD.2 ⟨hj,by simpa using q⟩)
        exact Qh (by omega))
       have Ut:∀ j∈(wa.heap.size :: own).filter fun j=>decide (j<W.heap.size),(j<w7.heap.size\/∃ cs t r,W.heap[j]?=some (.cells cs t r))/\w2.heap.size<=j/\j≠wf.heap.size:=fun j hj=>by
        obtain⟨h1,h2⟩:=QD.1 hj;simp only[decide_eq_true_eq] at h2;rcases Qv.1 h1 with q | q
        ·exact⟨Or.inl (by have:=TR.out;omega),by have:=En.out;omega,by rw[q];exact Ne.symm TO⟩
        refine⟨?_,Ic j q,fun e=>aar (e ▸ q)⟩;rcases P7.out _ q with r | ⟨-,cs,r,hh⟩
        ·exact Qd (by have:=Rb.out;have:=TR.out;omega)
        refine Qh ⟨cs,137,r,?_⟩;rw[<-pk.out.aD.block j h2 (fun e=>by simp at e;rw[e] at hh;exact pk.out.left.ne hh rfl)];exact hh
       refine⟨wX adB (fun j hj=>(Ut j hj).1),sJ ag5.out ad4.out adB (fun j hj=>(Ut j hj).2),F++[(x,L)],f,?_,pk.out.left.aD P6.out ag1,fun y=>?_,by rw[Qr];exact ala.out,P6.out.heap pk.out.Mj (oe pk.out.Mj (by have:=Rb.out;omega) (fun cs r e=>by cases e)),P6.out.heap pk.out.LB (oe pk.out.LB (by have:=FV.out;omega) (fun cs r e=>by cases e)),P6.out.heap pk.out.dfr (oe pk.out.dfr ajD (fun cs r e=>by cases e)),(K8.out.trans pk.out.aD (fun j hj=>Qh (by have:=En.out;simp at hj;omega))).trans P6.out (fun j hj=>Qh (Ic j hj)),P6.out.heap acT aar⟩
       ·rw[<-List.append_assoc,OV.out]
        exact P5.out.up (by simp[Q3])
       rw[pk.out.f y,Plain.yd,Qa];simp only[not_or]
    case done2 =>
     rintro D2 ys W hD2 rfl ⟨F,f,k1,k2,k3,k4,k5,k6,k7,k8,k9⟩ hK2;rw[Qc] at k4;have YI:=lh (k4.walks jN.out);obtain⟨⟨ov,xs,h1,h2,-,-⟩,-⟩:=k1;obtain⟨oo,oc,rfl⟩:=h2.shape;have c10:=(cell_of_row _ _ 0 _ _ _ h1).trans (show _=some (Qk oo (Plain.cR aa p.v++F).length oc) from rfl);have HN:=lh h2;have Bu:=lh hK2;have Lh:=lh k7;have DB:=lh k8;have Rm:=lh (lt_of_block k7);clear k2 k3 k4 k5 k6 k7 k8 k9 h1 h2 hK2;generalize Plain.cR aa p.v++F=WW at *;go_wp2;have Au:=lh ((ag.refl [D2] W).grown (grownBy_putObj' W D2 (.deferred none)) (fun j hj=>by cases hj;exact Qd (by simp)));have adP:=lh (Au.out.heap Lh.out (by have:=rh.out;simp;omega));have qZ:=lh ((ag.refl [D] (W.putObj D2 (.deferred none))).grown (grownBy_putObj' _ D (.deferred none)) (fun j hj=>by cases hj;exact Qd (by simp)));refine⟨by simp,.inl ⟨_,_,rfl,run_takeDeferred Bu.out,?_⟩⟩;refine⟨by simp,.inl ⟨_,_,rfl,run_takeDeferred adP.out,?_⟩⟩;refine⟨.tuple #[.slice oo WW.length oc,.int .i64 0],by simp[results,Tryz.results101,go_sem],?_⟩;rw[HR.out];refine⟨_,rfl,fun h=>absurd rfl h,fun _=>⟨WW,xs,YI.out,?_⟩,?_⟩
     ·refine ((HN.out.other Au.out (fun j hj cs t r hh=>?_)).other qZ.out (fun j hj cs t r hh=>?_)).base (by have:=wV.out;omega)
      ·simp at hj;subst hj;rw[Bu.out] at hh;cases hh
      simp at hj;subst hj;rw[adP.out] at hh;cases hh
     exact ((cB.out.tr DB.out).trans Au.out (fun j hj=>Qh (by have:=rh.out;have:=TR.out;have:=En.out;have:=wV.out;simp at hj;omega))).trans qZ.out (fun j hj=>Qh (by have:=TR.out;have:=En.out;have:=wV.out;simp at hj;omega))
    case stop2 =>
     rintro D2 c pre W _ _ h _;exact h.elim
   case stop =>
    rintro D c pre W _ _ h _;exact h.elim
 have HR:=lh hr;obtain rfl:=fQ hr;clear fQ fh;have AN:=lh (cB.out.tr ((ag.refl [] w2).alloc (.cells #[.pointer none] 175)));obtain⟨er,mf⟩:∃ er,Plain.bB g p aa=er:=⟨_,rfl⟩;have ze:=lh mf;rw[mf] at hr HR ⊢;clear mf;go_wp2;refine⟨.tuple #[.slice none 0 0,.int .i64 er],by simp[results,Tryz.results101,go_sem],?_⟩;rw[ze.out];exact⟨_,rfl,fun _=>rfl,fun h=>absurd h HR.out,AN.out⟩
end
end Go.Proofs.YtoiflofhcmjpoaaGreat
