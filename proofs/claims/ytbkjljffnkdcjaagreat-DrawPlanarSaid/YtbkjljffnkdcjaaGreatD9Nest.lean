/- Slices of structs of the call's own: each cell an int or a row of ints of the call's own. No condition beyond what each law says. -/
import Derived.RangeFuncNested
import Derived.RangeFuncBound
import Derived.RangeFuncCalls
import Derived.RangeFuncLeaves
import Derived.RangeFuncBox
import Derived.Shelf.Abstract
import Derived.Shelf.AbstractIn
import Derived.Shelf.RegionOpen
import Derived.OwnWalkIn
import Derived.TacticsInMore
import Derived.LoopNIn
import Derived.LoopIn
import Derived.Maps.OwnIn
import Derived.Test.YtbkjljffnkdcjaaGreatD9New
open Go.Value renaming ownBlock→Qa,slice→Qn,int→QB
open List renaming mem_append→Qb,mem_singleton→Qc,getElem?_eq_getElem→Qd,getElem?_append_left→Qe,length_map→Qf,filter_append→Qh,getElem?_append_right→Qi,getElem?_eq_some_iff→Qj,nodup_append→Qk,filter_eq_nil_iff→Ql,map_append→Qm,getElem?_set_ne→Qo,getD→Qp,filter_eq_self→Qq,mem_cons→Qr,length_append→Qt,mem_map→Qu,map_toArray→Qv,length_set→Qx,map_cons→Qy,map_nil→Qz,length→QA
open Or renaming inl→Qg,inr→Qs
open Option renaming some→Qw
namespace Go.Proofs.YtbkjljffnkdcjaaGreat
open Go.RowKit Go.Maps
inductive Cell where
 | num (k:Int)
 | row (l:List Int)
def Cell.At (w:World) (B:Nat) (v:Value):Cell->Prop
 | num k=>v=.int .i64 k
 | row l=>ax w B v l
theorem Cell.At.aM {w w':World} {B:Nat} {v:Value} {c:Cell} {own:List Nat} (h:c.At w B v) (hc:ai own w w') (hn:∀ b∈v.ownBlock.toList,b ∉ own):c.At w' B v:=by
 cases c with
 | num k=>exact h
 | row l=>exact ax.aM h hc hn
theorem Cell.At.base {w:World} {B B':Nat} {v:Value} {c:Cell} (h:c.At w B' v) (hB:B<=B'):c.At w B v:=by
 cases c with
 | num k=>exact h
 | row l=>exact ax.base h hB
theorem Cell.At.low {w:World} {B:Nat} {v:Value} {c:Cell} (h:c.At w B v):∀ b,v.ownBlock=some b->B<=b/\b<w.heap.size/\∃ cs r,w.heap[b]?=some (.cells cs 3 r):=by
 intro b hb;cases c with
 | num k =>
  have h':v=.int .i64 k:=h;rw[h'] at hb;cases hb
 | row l =>
  have h':ax w B v l:=h;have h1:=h'.low b (by rw[hb];simp);exact⟨h1.1,h1.2,bZ h' b (by rw[h'.aL,hb];simp)⟩
theorem Cell.At.one {w:World} {B:Nat} {v:Value} {c:Cell} (h:c.At w B v):v.oneCell'=true:=by
 cases c with
 | num k =>
  have h':v=.int .i64 k:=h;rw[h'];rfl
 | row l =>
  obtain⟨ao,cp,e⟩:=ax.shape h;rw[e];rfl
structure bF (w:World) (B:Nat) (e:TypeId) (sz:Nat) (ov:Value) (n:Nat) (xs:List Value) (cs:List Cell):Prop where
 out:w.ownsRow B e sz ov n xs
 len:xs.length=cs.length
 cells:xs.length=n*sz
 fits:∀ (k:Nat) (c:Cell),cs[k]?=some c->c.At w B (xs.getD k undef)
 apart:∀ k l,k<xs.length->l<xs.length->k≠l->(xs.getD k undef).ownBlock=none\/(xs.getD k undef).ownBlock≠(xs.getD l undef).ownBlock
theorem bF.nil (w:World) (B:Nat) (e:TypeId) (sz:Nat):bF w B e sz (.slice none 0 0) 0 [] []:=⟨World.ownsRow_nil _ _ _ _,rfl,by simp,by simp,by simp⟩
section
variable {w w' : World} {B n sz : Nat} {e : TypeId} {ov : Value} {xs : List Value} {cs : List Cell}
theorem bF.fit (h:bF w B e sz ov n xs cs) {k:Nat} (hk:k<xs.length):∃ c:Cell,cs[k]?=some c/\c.At w B (xs.getD k undef):=by
 have hk':k<cs.length:=by rw[<-h.len];exact hk
 exact⟨cs[k],Qd hk',h.fits k _ (Qd hk')⟩
theorem bF.kind (h:bF w B e sz ov n xs cs) {k b:Nat} (hk:k<xs.length) (hb:(xs.getD k undef).ownBlock=some b):B<=b/\b<w.heap.size/\∃ cs r,w.heap[b]?=some (.cells cs 3 r):=by
 obtain⟨c,-,hc⟩:=h.fit hk;exact hc.low b hb
theorem bF.aM {own:List Nat} (h:bF w B e sz ov n xs cs) (hc:ai own w w') (h1:∀ b,ov.ownBlock=some b->b ∉ own) (h2:∀ k b,k<xs.length->(xs.getD k undef).ownBlock=some b->b ∉ own):bF w' B e sz ov n xs cs :=
 ⟨bE h.out hc h1,h.len,h.cells,fun k c hk=>(h.fits k c hk).aM hc (fun b hb=>h2 k b (by rw[h.len];exact (Qj.1 hk).1) (by simpa using hb)),h.apart⟩
theorem bF.fresh (h:bF w B e sz ov n xs cs) (hc:ai [] w w'):bF w' B e sz ov n xs cs:=h.aM hc (by simp) (by simp)
theorem bF.other {own:List Nat} (h:bF w B e sz ov n xs cs) (hc:ai own w w') (ho:∀ j∈own,(∀ cs t r,w.heap[j]?=some (.cells cs t r)->t≠e/\t≠3)):bF w' B e sz ov n xs cs:=by
 refine h.aM hc (fun b hb hm=>?_) (fun k b hk hb hm=>?_)
 ·rcases h.out.2 with ⟨rfl,_⟩ | ⟨g,c,cur,rfl,_,hg,_⟩
  ·simp[Qa] at hb
  simp[Qa] at hb;subst hb;exact (ho _ hm _ _ _ hg).1 rfl
 obtain⟨-,-,cs,r,hh⟩:=h.kind hk hb;exact (ho _ hm _ _ _ hh).2 rfl
theorem bF.base {B':Nat} (h:bF w B' e sz ov n xs cs) (hB:B<=B'):bF w B e sz ov n xs cs :=
 ⟨oR h.out hB,h.len,h.cells,fun k c hk=>(h.fits k c hk).base hB,h.apart⟩
theorem cQ {α:Type} {a b:List α} {d:α} {k:Nat} (hk:k<a.length):(a++b).getD k d=a.getD k d:=by simp[Qp,Qe hk]
theorem cd {α:Type} {a b:List α} {d:α} {k:Nat} (hk:a.length<=k):(a++b).getD k d=b.getD (k - a.length) d:=by simp[Qp,Qi hk]
theorem bF.add {g cap:Nat} {us:List Value} {ds:List Cell} (h:bF w B e sz ov n xs cs) (he:e≠3) (hl:us.length=ds.length) (hz:us.length=sz)
  (hu:∀ (k:Nat) (c:Cell),ds[k]?=some c->c.At w B (us.getD k undef)) (I4:∀ k l,k<us.length->l<us.length->k≠l->(us.getD k undef).ownBlock=none\/(us.getD k undef).ownBlock≠(us.getD l undef).ownBlock)
  (jE:∀ k l b,k<xs.length->l<us.length->(xs.getD k undef).ownBlock=some b->(us.getD l undef).ownBlock≠some b)
  (hn:w'.ownsRow B e sz (.slice (some ⟨g,0,none⟩) (n+1) cap) (n+1) (xs++us)) (hc:ai ov.ownBlock.toList w w') :
  bF w' B e sz (.slice (some ⟨g,0,none⟩) (n+1) cap) (n+1) (xs++us) (cs++ds):=by
 have hlen:=h.len;have gM:∀ {v:Value} {c:Cell},c.At w B v->∀ b∈v.ownBlock.toList,b ∉ ov.ownBlock.toList:=by
  intro v c aO b hb hm;obtain⟨-,-,Eu,r,hh⟩:=aO.low b (by simpa using hb);rcases h.out.2 with ⟨rfl,_⟩ | ⟨g',c',cur,rfl,_,hg,_⟩
  ·simp[Qa] at hm
  simp[Qa] at hm;subst hm;rw[hg] at hh;simp at hh;exact he hh.2.1
 refine⟨hn,by simp[hlen,hl],by rw[Qt,h.cells,hz,Nat.add_mul,Nat.one_mul],fun k c hk=>?_,fun k l hk RC bh=>?_⟩
 ·by_cases e1:k<xs.length
  ·rw[cQ e1]
   rw[Qe (by omega)] at hk;exact (h.fits k c hk).aM hc (gM (h.fits k c hk))
  rw[cd (by omega)];rw[Qi (by omega)] at hk;rw[hlen];exact (hu _ c hk).aM hc (gM (hu _ c hk))
 rw[Qt] at hk RC;by_cases e1:k<xs.length
 ·rw[cQ e1]
  by_cases e2:l<xs.length
  ·rw[cQ e2]
   exact h.apart k l e1 e2 bh
  rw[cd (by omega)];cases hq:(xs.getD k undef).ownBlock with
  | none=>exact Qg rfl
  | some b=>exact Qs (fun q=>jE k _ b e1 (by omega) hq q.symm)
 rw[cd (by omega)];by_cases e2:l<xs.length
 ·rw[cQ e2]
  cases hq:(us.getD (k - xs.length) undef).ownBlock with
  | none=>exact Qg rfl
  | some b=>exact Qs (fun q=>jE l _ b e2 (by omega) q.symm hq)
 rw[cd (by omega)];exact I4 _ _ (by omega) (by omega) (by omega)
theorem dW {α:Type} (l:List α) (i:Nat) (v d:α) (j:Nat) (hi:i<l.length):(l.set i v).getD j d=if j=i then v else l.getD j d:=by
 by_cases e:j=i
 ·subst e;simp[hi]
 simp[Qp,Qo (Ne.symm e),e]
theorem bF.put {g cap q:Nat} {l m:List Int} {v:Value} (h:bF w B e sz (.slice (some ⟨g,0,none⟩) n cap) n xs cs) (he:e≠3) (hq:q<xs.length) (aO:cs[q]?=some (.row l)) (hr:ax w' B v m) (hc:ai (aL (xs.getD q undef)) w w') (hf:∀ b∈aL v,b∈aL (xs.getD q undef)\/w.heap.size<=b) :
  bF (w'.setCell ⟨g,q,none⟩ v) B e sz (.slice (some ⟨g,0,none⟩) n cap) n (xs.set q v) (cs.set q (.row m)):=by
 have hold:ax w B (xs.getD q undef) l:=h.fits q _ aO;rw[hold.aL] at hc hf;rw[hr.aL] at hf;obtain⟨ad2,Pb⟩:∃ ad2,w.heap[g]?=some (.cells ad2 e (0,0)):=by
  rcases h.out.2 with ⟨q,_⟩ | ⟨g',c',cur,q,_,hg,_⟩
  ·cases q
  simp only[Qn.injEq,Qw.injEq,Addr.mk.injEq] at q;obtain⟨⟨rfl,-⟩,-⟩:=q;exact⟨_,hg⟩
 have hgx:∀ k,k<xs.length->(xs.getD k undef).ownBlock≠some g:=by
  intro k hk hb;obtain⟨-,-,Eu,r,hh⟩:=h.kind hk hb;rw[Pb] at hh;simp at hh;exact he hh.2.1
 have G7:=hc.heap Pb (by simpa using hgx q hq);have hgv:v.ownBlock≠some g:=by
  intro hb;obtain⟨Eu,r,hh⟩:=bZ hr g (by rw[hr.aL,hb];simp);rw[G7] at hh;simp at hh;exact he hh.2.1
 have eQ:w'.ownsRow B e sz (.slice (some ⟨g,0,none⟩) n cap) n xs:=bE h.out hc (fun b hb=>by
  simp[Qa] at hb;subst hb;simpa using hgx q hq)
 have bw:ai [g] w' (w'.setCell ⟨g,q,none⟩ v):=(ai.refl _ _).setCell (Qg (by simp)) _;have hs:=eQ.stored q v;refine⟨hs.1,by simp[h.len],by rw[Qx];exact h.cells,fun k c hk=>?_,fun k j hk hj bh=>?_⟩
 ·rw[dW _ _ _ _ _ hq]
  by_cases e1:k=q
  ·subst e1
   rw[if_pos rfl];rw[List.getElem?_set_self (by rw[<-h.len];exact hq)] at hk;cases hk;exact hr.aM bw (fun b hb e2=>hgv (by simp at e2 hb;rw[hb,e2]))
  rw[if_neg e1];rw[Qo (Ne.symm e1)] at hk;have qN:k<xs.length:=by rw[h.len];exact (Qj.1 hk).1
  refine ((h.fits k c hk).aM hc (fun b hb e2=>?_)).aM bw (fun b hb e2=>hgx k qN ((Option.mem_toList.1 hb).trans (congrArg _ (Qc.1 e2))));rcases h.apart k q qN hq e1 with t | t
  ·rw[t] at hb;simp at hb
  simp at hb e2;exact t (hb.trans e2.symm)
 rw[Qx] at hk hj;rw[dW _ _ _ _ _ hq,dW _ _ _ _ _ hq];by_cases e1:k=q
 ·subst e1
  rw[if_pos rfl,if_neg (Ne.symm bh)];cases hb:v.ownBlock with
  | none=>exact Qg rfl
  | some b =>
   refine Qs (fun e2=>?_);rcases hf b (by rw[hb];simp) with t | t
   ·rcases h.apart j k hj hk (Ne.symm bh) with s | s
    ·rw[s] at e2;cases e2
    simp at t;exact s (e2.symm.trans t.symm)
   have:=(h.kind hj e2.symm).2.1;omega
 rw[if_neg e1];by_cases e2:j=q
 ·subst e2
  rw[if_pos rfl];cases hb:(xs.getD k undef).ownBlock with
  | none=>exact Qg rfl
  | some b =>
   refine Qs (fun e3=>?_);rcases hf b (by rw[<-e3];simp) with t | t
   ·rcases h.apart k j hk hj bh with s | s
    ·rw[s] at hb;cases hb
    simp at t;exact s (hb.trans t.symm)
   have:=(h.kind hk hb).2.1;omega
 rw[if_neg e2];exact h.apart k j hk hj bh
theorem bF.cell {g cap k:Nat} (h:bF w B e sz (.slice (some ⟨g,0,none⟩) n cap) n xs cs) (hk:k<xs.length):w.cell? ⟨g,k,none⟩=some (xs.getD k undef):=by
 have:=h.out.cells (g:=g) rfl k (xs.getD k undef) (by simp[Qp,hk]);have iw:(⟨g,0,none⟩:Addr).add k=⟨g,k,none⟩:=by unfold Addr.add;split <;> simp_all
 rwa[iw] at this
theorem bF.shape (h:bF w B e sz ov n xs cs):∃ ao c,ov=.slice ao n c:=cM h.out
theorem bF.some (h:bF w B e sz ov n xs cs) (hn:0<n):∃ g c,ov=.slice (.some ⟨g,0,none⟩) n c:=cN h.out hn
theorem bF.num {k:Nat} {z:Int} (h:bF w B e sz ov n xs cs) (hc:cs[k]?=Qw (.num z)):xs.getD k undef=.int .i64 z:=h.fits k _ hc
theorem bF.row {k:Nat} {l:List Int} (h:bF w B e sz ov n xs cs) (hc:cs[k]?=Qw (.row l)):ax w B (xs.getD k undef) l:=h.fits k _ hc
end
end Go.Proofs.YtbkjljffnkdcjaaGreat
namespace Go.Proofs.YtbkjljffnkdcjaaGreat.Plain
theorem O1 {g:Gr} {p:Pt} {aa:List (List Int)} (hp:aH g p) (ht:aT g p aa) {x:Int} (hx:x∈p.ag):ay g aa x∈p.ag :=
 (mc ht (fun _ hd=>hp.vr _ (hp.aQ hd).1) hx).1
theorem CW {g:Gr} {p:Pt} {aa:List (List Int)} (hp:aH g p) (ht:aT g p aa) {x y:Int} (hx:x∈p.ag) (hy:y∈p.ag) (e:ay g aa x=ay g aa y):x=y:=by
 obtain⟨h1,h2⟩:=ke ht hp.en hp.vn hp.vr;have hm:∀ z,z∈p.ag->aE z∈((busy aa p.v).map fun v=>(aI aa v).reverse).flatten:=fun z hz =>
  h2.mem_iff.2 (List.mem_filter.2 ⟨bu hz,decide_eq_true (hp.aQ (bu hz)).1⟩)
 have:=h1.inj _ (hm x hx) _ (hm y hy) e;rw[<-aS x,this,aS]
def flat (F:List bR):List Int:=(F.map (·.2)).flatten
theorem AP (F:List bR) (f:bR):flat (F++[f])=flat F++f.2:=by simp[flat]
structure yL (g:Gr) (p:Pt) (aa:List (List Int)) (F:List bR) (pre:List Int):Prop where
 rings:bC (ay g aa) (F.map (·.2))
 sub:∀ x∈flat F,x∈p.ag
 key:∀ f∈F,∃ l,f.2=f.1 :: l
 keys:(F.map (·.1)).Sublist pre
 least:∀ f∈F,∃ a b,pre=a++f.1 :: b/\∀ y∈f.2,y ∉ a
 cover:∀ x∈pre,x∈flat F
theorem yL.start (g:Gr) (p:Pt) (aa:List (List Int)):yL g p aa [] []:=⟨⟨by simp,by simp⟩,by simp[flat],by simp,by simp,by simp,by simp⟩
theorem yL.skip {g:Gr} {p:Pt} {aa:List (List Int)} {F:List bR} {pre:List Int} (h:yL g p aa F pre) {d:Int} (hd:d∈flat F):yL g p aa F (pre++[d]):=by
 refine⟨h.rings,h.sub,h.key,h.keys.trans (List.sublist_append_left _ _),fun f hf=>?_,fun x hx=>?_⟩
 ·obtain⟨a,b,e,ha⟩:=h.least f hf
  exact⟨a,b++[d],by rw[e];simp,ha⟩
 rcases Qb.1 hx with q | q
 ·exact h.cover x q
 rw[Qc.1 q];exact hd
structure Tl (g:Gr) (p:Pt) (aa:List (List Int)) (F:List bR) (d:Int) (L:List Int) (x:Int):Prop where
 nodup:L.Nodup
 sub:∀ y∈L,y∈p.ag/\y ∉ flat F
 uG:(L=[]/\x=d)\/∃ l,L=d :: l/\Trail (ay g aa) d l x
 mem:x∈p.ag
theorem Tl.start {g:Gr} {p:Pt} {aa:List (List Int)} {F:List bR} {d:Int} (hd:d∈p.ag):Tl g p aa F d [] d:=⟨by simp,by simp,Qg ⟨rfl,rfl⟩,hd⟩
theorem Tl.step {g:Gr} {p:Pt} {aa:List (List Int)} {F:List bR} {d x:Int} {L:List Int} (hp:aH g p) (ht:aT g p aa) (h:Tl g p aa F d L x) (h1:x ∉ flat F) (h2:x ∉ L):Tl g p aa F d (L++[x]) (ay g aa x):=by
 refine⟨?_,fun y hy=>?_,Qs ?_,O1 hp ht h.mem⟩
 ·rw[Qk]
  exact⟨h.nodup,by simp,fun a ha b hb e=>by simp at hb;subst hb;subst e;exact h2 ha⟩
 ·rcases Qb.1 hy with q | q
  ·exact h.sub y q
  rw[Qc.1 q];exact⟨h.mem,h1⟩
 rcases h.uG with ⟨rfl,rfl⟩ | ⟨l,rfl,ht⟩
 ·exact⟨[],rfl,rfl⟩
 exact⟨l++[x],rfl,Trail.append.2 ⟨ht,rfl⟩⟩
theorem xX {q:Int->Int} {z:Int}:∀ {l:List Int} {a:Int},Trail q a l z->∃ m y,a :: l=m++[y]/\q y=z
 | [],a,h=>⟨[],a,rfl,h⟩
 | b :: l,a,h=>by
  obtain⟨m,y,e,hy⟩:=xX h.2;exact⟨a :: m,y,by rw[e];rfl,hy⟩
theorem x6 {q:Int->Int} {z:Int}:∀ {l:List Int} {a:Int},Trail q a l z->∀ x∈l,∃ m y r,a :: l=m++y :: x :: r/\q y=x
 | [],a,_,x,hx=>by simp at hx
 | b :: l,a,h,x,hx=>by
  rcases Qr.1 hx with rfl | hx
  ·exact⟨[],a,l,rfl,h.1⟩
  obtain⟨m,y,r,e,hy⟩:=x6 h.2 x hx;exact⟨a :: m,y,r,by rw[e];rfl,hy⟩
theorem Tl.ring {g:Gr} {p:Pt} {aa:List (List Int)} {F:List bR} {pre:List Int} {d x:Int} {L:List Int} (hp:aH g p) (ht:aT g p aa) (hF:yL g p aa F pre) (h:Tl g p aa F d L x) (hL:L≠[]) (hx:x∈flat F\/x∈L):∃ l,L=d :: l/\Ring (ay g aa) L:=by
 rcases h.uG with ⟨rfl,-⟩ | ⟨l,rfl,hw⟩
 ·exact absurd rfl hL
 refine⟨l,rfl,?_⟩;obtain⟨m,z,e,hz⟩:=xX hw;have hzL:z∈d :: l:=by rw[e];simp
 have hzd:=h.sub z hzL;rcases hx with q | q
 ·obtain⟨y,hy,Zu⟩:=hF.rings.pred (x:=x) q
  have:y=z:=CW hp ht (hF.sub y hy) hzd.1 (Zu.trans hz.symm);subst this;exact absurd hy hzd.2
 rcases Qr.1 q with rfl | q
 ·exact hw
 obtain⟨m',y,r,e',hy⟩:=x6 hw x q;have hyL:y∈d :: l:=by rw[e'];simp
 have:y=z:=CW hp ht (h.sub y hyL).1 hzd.1 (hy.trans hz.symm);subst this;exfalso;have hn:=h.nodup;have e2:m'++y :: x :: r=m++[y]:=e'.symm.trans e;have hlen:=congrArg QA e2;simp at hlen;have g1:(m'++y :: x :: r)[m'.length]?=some y:=by simp
 rw[e] at hn;rw[e2,Qe (by omega)] at g1;exact (Qk.1 hn).2.2 y (List.mem_of_getElem? g1) y (by simp) rfl
theorem yL.add {g:Gr} {p:Pt} {aa:List (List Int)} {F:List bR} {pre:List Int} {d:Int} {L:List Int} (h:yL g p aa F pre) (hn:L.Nodup) (hs:∀ y∈L,y∈p.ag/\y ∉ flat F) (hr:∃ l,L=d :: l/\Ring (ay g aa) L):yL g p aa (F++[(d,L)]) (pre++[d]):=by
 obtain⟨l,e,Jl⟩:=hr;have uZ:=AP F (d,L);refine⟨⟨fun c hc=>?_,?_⟩,fun x hx=>?_,fun f hf=>?_,?_,fun f hf=>?_,fun x hx=>?_⟩
 ·rw[Qm,Qb] at hc
  rcases hc with q | q
  ·exact h.rings.ring c q
  simp at q;rw[q];exact Jl
 ·show (flat (F++[(d,L)])).Nodup
  rw[uZ,Qk];exact⟨h.rings.nodup,hn,fun a ha b hb q=>(hs b hb).2 (q ▸ ha)⟩
 ·rw[uZ,Qb] at hx
  exact hx.elim (h.sub x) (fun q=>(hs x q).1)
 ·rcases Qb.1 hf with q | q
  ·exact h.key f q
  rw[Qc.1 q];exact⟨l,e⟩
 ·rw[Qm]
  exact h.keys.append (List.Sublist.refl _)
 ·rcases Qb.1 hf with q | q
  ·obtain⟨a,b,e1,ha⟩:=h.least f q
   exact⟨a,b++[d],by rw[e1];simp,ha⟩
  rw[Qc.1 q];exact⟨pre,[],rfl,fun y hy hm=>(hs y hy).2 (h.cover y hm)⟩
 rw[uZ,Qb];rcases Qb.1 hx with q | q
 ·exact Qg (h.cover x q)
 rw[Qc.1 q,e];exact Qs (by simp)
def dj (aa:List (List Int)) (l:List Int):List bR:=(l.reverse.filter fun v=>(aI aa v).isEmpty).map fun v=>(-1 - v,[])
theorem EN (aa:List (List Int)) (v:Int) (l:List Int):dj aa (v :: l)=dj aa l++(if (aI aa v).isEmpty then [(-1 - v,[])] else []):=by
 unfold dj;rw[List.reverse_cons,Qh,Qm]
 congr 1
 cases hq:(aI aa v).isEmpty <;> simp[hq]
structure fC (g:Gr) (p:Pt) (aa:List (List Int)) (W:List bR):Prop where
 aj:sk g p aa W
 split:∃ F,W=dj aa p.v++F/\yL g p aa F p.ag
theorem yL.walks {g:Gr} {p:Pt} {aa:List (List Int)} {F:List bR} (hp:aH g p) (h:yL g p aa F p.ag):fC g p aa (dj aa p.v++F):=by
 have EU:(dj aa p.v).filter (fun f=>!f.2.isEmpty)=[]:=by
  rw[Ql];intro f hf;obtain⟨v,-,rfl⟩:=Qu.1 hf;simp
 have zH:(dj aa p.v).filter (fun f=>f.2.isEmpty)=dj aa p.v:=by
  rw[Qq];intro f hf;obtain⟨v,-,rfl⟩:=Qu.1 hf;simp
 have bh:∀ f∈F,f.2.isEmpty=false:=fun f hf=>by
  obtain⟨l,e⟩:=h.key f hf;rw[e];rfl
 have z':F.filter (fun f=>!f.2.isEmpty)=F:=Qq.2 fun f hf=>by rw[bh f hf];rfl
 have SP:F.filter (fun f=>f.2.isEmpty)=[]:=Ql.2 fun f hf=>by rw[bh f hf];simp
 refine⟨⟨?_,?_,fun f hf d l e=>?_,?_⟩,F,rfl,h⟩
 ·rw[Qh,EU,z'];exact h.rings
 ·rw[Qh,EU,z']
  exact (List.perm_ext_iff_of_nodup h.rings.nodup (cP hp.en)).2 fun x=>⟨h.sub x,h.cover x⟩
 ·rcases Qb.1 hf with q | q
  ·obtain⟨v,-,rfl⟩:=Qu.1 q
   cases e
  obtain⟨l',e'⟩:=h.key f q;rw[e'] at e;cases e;rfl
 rw[Qh,zH,SP,List.append_nil];unfold dj;rw[List.map_map];exact ((List.reverse_perm p.v).filter _).map _
end Go.Proofs.YtbkjljffnkdcjaaGreat.Plain
namespace Go.Proofs.YtbkjljffnkdcjaaGreat
open Go.RowKit Go.Maps
theorem Aw (rb:Nat) (w:World) :
  Calls Tryz.prog 153 #[.pointer (some ⟨rb,0,none⟩)] w fun e w'=>e=.returned (.func (.func 180) #[] #[.pointer (some ⟨w.heap.size,0,none⟩)])/\w'=w.alloc (.cells #[.pointer (some ⟨rb,0,none⟩)] 176):=by
 go_enter Tryz.func153,Tryz.ntmps153
 go_wp2;go_ret;exact⟨rfl,rfl⟩
def xK (W:World) (Bs rb:Nat) (vd:Value) (ds:List Int):Prop:=W.cell? ⟨Bs,0,none⟩=some (.pointer (some ⟨rb,0,none⟩))/\W.cell? ⟨rb,3,none⟩=some vd/\aJ W vd ds
theorem xK.aM {W W':World} {own:List Nat} {Bs rb:Nat} {vd:Value} {ds:List Int} (h:xK W Bs rb vd ds) (hc:ai own W W') (h1:Bs ∉ own) (h2:rb ∉ own) (h3:∀ b n c,vd=.slice (some b) n c->b.block ∉ own):xK W' Bs rb vd ds :=
 ⟨hc.cell h.1 h1,hc.cell h.2.1 h2,h.2.2.aM hc h3⟩
def lq (Bs rb:Nat) (vd:Value) (ds:List Int) (A B:World):Prop:=A.heap.size<=B.heap.size/\(xK A Bs rb vd ds->xK B Bs rb vd ds)
section
attribute [local go_sem] Oper.semAt_some
set_option maxRecDepth 100000 in
set_option maxHeartbeats 2000000 in
theorem Kg (α:Type) (enc:α->Int) (n:Nat) (hn:1<=n) (l Bs rb:Nat) (vd:Value) (xs:List α) (hl:xs.length<4294967296) (J Jx:List α->World->Prop)
  (hY:∀ pre x W,J pre W->pre.length<xs.length->YieldAt Fence.wide (n - 1) Tryz.prog l #[.int .i64 (enc x)] W fun e W' =>
   (e=.returned (.bool true)/\J (pre++[x]) W'/\lq Bs rb vd (xs.map enc) W W')\/(e=.returned (.bool false)/\Jx (pre++[x]) W'))
  (W:World) (hI:xK W Bs rb vd (xs.map enc)) (h0:J [] W) :
  CallsIn Fence.wide n Tryz.prog 180 #[.func (.yield l) #[] #[],.pointer (some ⟨Bs,0,none⟩)] W fun e W'=>(∃ v,e=.returned v) /\
   ((∃ ys,ys=xs/\J ys W')\/(∃ pre,(∃ k,k<=xs.length/\pre=xs.take k)/\Jx pre W')):=by
 have HIT:=lh hI;obtain⟨cG,bG,dB⟩:=hI;obtain⟨ao,cap,rfl,-,-,jM⟩:=dB;rw[Qf] at jM bG;have alB:Hid (xK W Bs rb (.slice ao xs.length cap) (xs.map enc)):=by have:=HIT.out;rw[Qf] at this;exact lh this
 have hY2:Hid (∀ pre x W,J pre W->pre.length<xs.length->YieldAt Fence.wide (n - 1) Tryz.prog l #[.int .i64 (enc x)] W fun e W' =>
   (e=.returned (.bool true)/\J (pre++[x]) W'/\lq Bs rb (.slice ao xs.length cap) (xs.map enc) W W')\/(e=.returned (.bool false)/\Jx (pre++[x]) W')):=by
  have:=hY;rw[Qf] at this;exact lh this
 clear jM hY HIT;refine callsIn_of_wp Tryz.func180 rfl trivial ?_ rfl;simp only[Tryz.ntmps180,List.size_toArray,List.length_cons,List.length_nil,Nat.reduceAdd,Nat.reduceSub,Array.replicate_succ,Array.replicate_zero,List.push_toArray,List.append_toArray,List.nil_append,List.cons_append]
 gi_wp2
 gi_loopw [12] (fun i wr=>∃ k:Nat,k<=xs.length/\i=.int .i64 k/\J (xs.take k) wr/\Hid (xK wr Bs rb (.slice ao xs.length cap) (xs.map enc))) (fun i _=>xs.length - (intOf i).toNat)
 case atStart=>exact⟨0,Nat.zero_le _,rfl,by simpa using h0,alB⟩
 case round =>
  obtain⟨k,hk,rfl,hJs,hit⟩:=hrel;have HJ:=lh hJs;by_cases aU:k<xs.length
  ·obtain⟨x,hx⟩:∃ x,xs[k]?=some x:=⟨xs[k],Qd aU⟩
   have sE:=lh (show xs.take (k+1)=xs.take k++[x] by
    rw[List.take_succ_eq_append_getElem aU]
    congr 1
    rw[Qd aU] at hx;simpa using hx)
   obtain⟨ao2,qC,e,-,-,jM⟩:=hit.out.2.2;obtain⟨b,off,e2,aO⟩:=jM (by intro q;have:=congrArg QA q;rw[Qf] at this;simp at this;subst this;simp at aU);simp only[Qn.injEq] at e;obtain⟨e3,-,-⟩:=e;rw[e2] at e3;subst e3;have ck:=aO k (by rw[Qf];exact aU);have hxe:(xs.map enc).getD k 0=enc x:=by simp[Qp,hx]
   rw[hxe] at ck;obtain⟨fn,tmps,assign,body,hy,hR⟩:=hY2.out (xs.take k) x wr hJs (by rw[List.length_take];omega);clear hx aO jM hxe hJs;generalize enc x=z at *
   gi_wp2
   refine hR.mono ?_;rintro e W3 (⟨rfl,hJ3,TD⟩ | ⟨rfl,hJx3⟩)
   ·have HJ3:=lh hJ3
    have HI3:=lh (TD.2 hit.out)
    gi_wp2
    go_roundw
    case rel=>exact⟨k+1,by omega,by go_num,by rw[sE.out];exact HJ3.out,HI3⟩
    case measure=>simp[intOf];omega
   have HJ3:=lh hJx3
   gi_wp2
   refine bodyPost_ret (results_none rfl _ _ _) rfl ?_;exact⟨⟨_,rfl⟩,.inr ⟨_,⟨k+1,by omega,rfl⟩,by rw[sE.out];exact HJ3.out⟩⟩
  have e:k=xs.length:=by omega
  subst e
  gi_wp2
  go_end0
  exact⟨⟨_,rfl⟩,.inl ⟨xs,rfl,by have:=HJ.out;rwa[List.take_length] at this⟩⟩
theorem tU (α:Type) (enc:α->Int) (n:Nat) (hn:1<=n) (Bs rb:Nat) (vd:Value) (xs:List α) (hl:xs.length<4294967296) (w:World) (hI:xK w Bs rb vd (xs.map enc)) :
  SeqStopsK Fence.wide n Tryz.prog 180 #[.pointer (some ⟨Bs,0,none⟩)] (fun x:α=>#[QB .i64 (enc x)]) (lq Bs rb vd (xs.map enc)) (fun ys=>ys=xs) (fun pre=>∃ k,k<=xs.length/\pre=xs.take k) xs.length w:=fun l J Jx W hW _ _ hY h0 =>
 Kg α enc n hn l Bs rb vd xs hl J Jx hY W (by
  have hc:ai [] w W:=ai.n9 hW (Nat.le_refl _);exact hI.aM hc (by simp) (by simp) (by simp)) h0
end
end Go.Proofs.YtbkjljffnkdcjaaGreat
namespace Go.Proofs.YtbkjljffnkdcjaaGreat
open Go.RowKit Go.Maps
def ft (F:List Plain.bR):List Cell:=F.flatMap fun f=>[.num f.1,.row f.2]
theorem wV (F:List Plain.bR) (f:Plain.bR):ft (F++[f])=ft F++[.num f.1,.row f.2]:=by simp[ft]
theorem Ol:pD 135 138 (.agg #[.int .i64 0,.slice none 0 0]) 2 32:=⟨Tryz.underlying135,by kernel_rfl,rfl,by decide,by decide⟩
structure ot (B:Nat) (wr:World) (ob T:Nat) (F:List Plain.bR):Prop where
 ex:∃ ov xs,wr.heap[ob]?=some (.cells #[ov] 135 (0,0))/\bF wr B 138 2 ov F.length xs (ft F)/\(∀ b,ov.ownBlock=some b->b<T)/\∀ k b,k<xs.length->(xs.getD k undef).ownBlock=some b->b<T
 lt:ob<T
theorem ot.keep {B:Nat} {wr w':World} {ob T:Nat} {F:List Plain.bR} {own:List Nat} (h:ot B wr ob T F) (hc:ai own wr w') (ho:∀ j∈own,T<=j\/∀ cs t r,wr.heap[j]?≠some (.cells cs t r)):ot B w' ob T F:=by
 obtain⟨⟨ov,xs,h1,h2,h3,h4⟩,h5⟩:=h;refine⟨⟨ov,xs,hc.heap h1 (fun hm=>?_),h2.aM hc (fun b hb hm=>?_) (fun k b hk hb hm=>?_),h3,h4⟩,h5⟩
 ·rcases ho _ hm with q | q
  ·omega
  exact q _ _ _ h1
 ·rcases ho _ hm with q | q
  ·have:=h3 b hb;omega
  rcases h2.out.2 with ⟨rfl,_⟩ | ⟨g,c,cur,rfl,_,hg,_⟩
  ·simp[Qa] at hb
  simp[Qa] at hb;subst hb;exact q _ _ _ hg
 rcases ho _ hm with q | q
 ·have:=h4 k b hk hb;omega
 obtain⟨-,-,cs,r,hh⟩:=h2.kind hk hb;exact q _ _ _ hh
theorem ot.fresh {B:Nat} {wr w':World} {ob T:Nat} {F:List Plain.bR} (h:ot B wr ob T F) (hc:ai [] wr w'):ot B w' ob T F:=h.keep hc (by simp)
theorem ot.up {B:Nat} {wr:World} {ob T T':Nat} {F:List Plain.bR} (h:ot B wr ob T F) (hT:T<=T'):ot B wr ob T' F:=by
 obtain⟨⟨ov,xs,h1,h2,h3,h4⟩,h5⟩:=h;exact⟨⟨ov,xs,h1,h2,fun b hb=>by have:=h3 b hb;omega,fun k b hk hb=>by have:=h4 k b hk hb;omega⟩,by omega⟩
theorem ot.push {B:Nat} {wr:World} {ob T:Nat} {F:List Plain.bR} (h:ot B wr ob T F) (hB:B<=wr.heap.size) (Bc:B<=ob) (k:Int) {v:Value} {l:List Int} (hv:ax wr B v l) (hT:∀ j∈aL v,T<=j) (hn:F.length<1000000000) :
  ∃ ao c g cap w2,wr.cell? ⟨ob,0,none⟩=some (.slice ao F.length c) /\
   (Builtin.append_ #[135,135] 135 #[.slice ao F.length c,.slice (some ⟨wr.heap.size,0,none⟩) 1 1]).run Tryz.prog (wr.alloc (.cells #[.int .i64 k,v] 138))=.ok (.slice (some ⟨g,0,none⟩) (F.length+1) cap) w2 /\
   w2.cell? ⟨ob,0,none⟩=some (.slice ao F.length c)/\w2.frozen? ⟨ob,0,none⟩=false /\
   ot B (w2.setCell ⟨ob,0,none⟩ (.slice (some ⟨g,0,none⟩) (F.length+1) cap)) ob w2.heap.size (F++[(k,l)]) /\
   ∃ own,ai own wr (w2.setCell ⟨ob,0,none⟩ (.slice (some ⟨g,0,none⟩) (F.length+1) cap))/\∀ j∈own,j=ob\/(B<=j/\∃ cs r,wr.heap[j]?=some (.cells cs 138 r)):=by
 obtain⟨⟨ov,xs,h1,h2,h3,h4⟩,h5⟩:=h;obtain⟨ao,c,rfl⟩:=h2.shape;obtain⟨g,cap,w2,hr,r2,r3,r4⟩:=rM Ol h2.out hB (cs:=#[.int .i64 k,v]) rfl (by
  intro u hu;simp at hu;rcases hu with rfl | rfl
  ·rfl
  obtain⟨a',c',e⟩:=hv.shape;rw[e];rfl) (by omega) (Qg rfl) 135
 have gM:(Qn ao F.length c).ownBlock≠some ob:=fun e=>kA h2.out h1 (by decide) e;have fh:=r3.heap h1 (by simpa using gM);have di:=r3.size;have xp:xs.length=F.length*2:=h2.cells;have PQ:=h2.add (w':=w2) (g:=g) (cap:=cap) (us:=[.int .i64 k,v]) (ds:=[.num k,.row l]) (by decide) rfl rfl (fun i d hi=>by
   rcases i with _ | _ | i
   ·simp at hi;subst hi;rfl
   ·simp at hi;subst hi;exact hv
   ·simp at hi) (fun i j hi hj bh=>by
   simp at hi hj;rcases i with _ | _ | i
   ·exact Qg rfl
   ·rcases j with _ | _ | j
    ·cases hq:([QB .i64 k,v].getD 1 undef).ownBlock with
     | none=>exact Qg rfl
     | some b=>exact Qs (by simp[Qa])
    ·omega
    omega
   ·omega) (fun i j b hi hj hb e=>by
   simp at hj;have:=h4 i b hi hb;rcases j with _ | _ | j
   ·simp[Qa] at e
   ·have e':v.ownBlock=some b:=e
    have:=hT b (by rw[hv.aL,e'];simp);omega
   omega) r2 r3
 have bw:ai [ob] w2 (w2.setCell ⟨ob,0,none⟩ (.slice (some ⟨g,0,none⟩) (F.length+1) cap)):=(ai.refl _ _).setCell (Qg (by simp)) _;have hlen:(F++[(k,l)]).length=F.length+1:=by simp
 have eQ:ot B (w2.setCell ⟨ob,0,none⟩ (.slice (some ⟨g,0,none⟩) (F.length+1) cap)) ob w2.heap.size (F++[(k,l)]):=by
  refine⟨⟨_,xs++[.int .i64 k,v],heap_setCell_same fh 0 _,?_,?_,?_⟩,lt_of_block fh⟩
  ·rw[wV,hlen]
   exact PQ.other bw (fun j hj cs t r hh=>by
    simp at hj;subst hj;rw[fh] at hh;simp at hh;rw[<-hh.2.1];decide)
  ·intro b hb
   exact (PQ.out.lt b hb).2
  intro i b hi hb;exact (PQ.kind hi hb).2.1
 refine⟨ao,c,g,cap,w2,(cell_of_row _ _ 0 _ _ _ h1).trans rfl,hr,(cell_of_row _ _ 0 _ _ _ fh).trans rfl,bJ fh 0,eQ,ob :: (Qn ao F.length c).ownBlock.toList,(r3.mono (fun j hj=>Qg (by simp[hj]))).trans bw (fun j hj=>Qg (by simp at hj;simp[hj])),fun j hj=>?_⟩;rcases Qr.1 hj with q | q
 ·exact Qg q
 refine Qs ⟨(h2.out.lt j (by simpa using q)).1,?_⟩;rcases h2.out.2 with ⟨e,_⟩ | ⟨g',c',cur,e,_,hg,_⟩
 ·rw[e] at q;simp[Qa] at q
 rw[e] at q;simp[Qa] at q;subst q;exact⟨_,_,hg⟩
end Go.Proofs.YtbkjljffnkdcjaaGreat
namespace Go.Proofs.YtbkjljffnkdcjaaGreat
open Go.RowKit Go.Maps
section
variable {ops : Array Oper} {rest : List Oper} {o : Oper} {a : Act} {Q : Exit -> Act -> World -> Prop} {w w' : World} {F : Fence} {nF : Nat}
theorem ki (hg:o.guard=none) (s x:Operand) (t:TypeId) (ho:o.op=.call { callee:=.builtin .append,args:=#[s,x],argTypes:=#[t,t] }) {v u r:Value} (hs:a.eval s=v) (hx:a.eval x=u)
  (hr:(Builtin.append_ #[t,t] o.type #[v,u]).run Tryz.prog w=.ok r w') (hK:wpList Tryz.prog ops Q rest (a.put o.dst r) w'):wpList Tryz.prog ops Q (o :: rest) a w:=by
 refine wpList_plain hg fun K uM=>?_;unfold Oper.wp execOp;simp only[ho,resolve,invoke,builtin,Sem.run_bind,Sem.run_pure,Result.andThen_ok,Qv,Qy,Qz,hs,hx,hr];exact uM _ _ hK
theorem Aj (hg:o.guard=none) (s x:Operand) (t:TypeId) (ho:o.op=.call { callee:=.builtin .append,args:=#[s,x],argTypes:=#[t,t] }) {v u r:Value} (hs:a.eval s=v) (hx:a.eval x=u)
  (hr:(Builtin.append_ #[t,t] o.type #[v,u]).run Tryz.prog w=.ok r w') (hK:wpListIn F nF Tryz.prog ops Q rest (a.put o.dst r) w'):wpListIn F nF Tryz.prog ops Q (o :: rest) a w:=by
 refine wpListIn_plain hg fun K uM=>?_;unfold Oper.wpIn;refine⟨by simp[Oper.about,ho,resolve,Target.leads,Sem.run_pure],?_⟩;rw[Oper.semAt_plain F _ _ (by rw[ho];intro c hc';cases hc')];unfold execOp;simp only[ho,resolve,invoke,builtin,Sem.run_bind,Sem.run_pure,Result.andThen_ok,Qv,Qy,Qz,hs,hx,hr];exact uM _ _ hK
variable (w)
theorem nK (hg:o.guard=none) (m x:Operand) (kU:o.op=Op.lookup 124 m x true) {b n:Nat} {f:Int->Option Int} (h:bN w b n f) (hm:a.eval m=.map (some b))
  {k:Int} (hk:bn k) (hx:a.eval x=.int .i64 k) {v:Int} {t:Bool} (hv:Hid ((f k).getD 0=v)) (ht:Hid ((f k).isSome=t)) (hK:wpListIn F nF Tryz.prog ops Q rest (a.put o.dst (.tuple #[.int .i64 v,.bool t])) w):wpListIn F nF Tryz.prog ops Q (o :: rest) a w:=by
 obtain⟨D,bL,hD⟩:=h;refine wpListIn_lookup_own_ok_int w hg m x _ kU _ _ .i64 bM Tryz.underlying124 Tryz.underlying3 (rq _) b n D hm bL _ _ hx (keyOf_int_mk Tryz.underlying3 hk) (fun c dN _=>?_);obtain⟨h1,h2⟩:=hD k hk;rw[h2,hv.out] at dN;cases dN;rw[h1,ht.out];exact hK
theorem NC (hg:o.guard=none) (m x u:Operand) (kU:o.op=Op.mapUpdate 124 m x u) {b n:Nat} {f:Int->Option Int} (h:bN w b n f) (hn:n<maxLen) (hm:a.eval m=.map (some b))
  {k v:Int} (hk:bn k) (hv:bn v) (hx:a.eval x=.int .i64 k) (hu:a.eval u=.int .i64 v)
  (hK:∀ w',bN w' b (n+1) (fun y=>if y=k then some v else f y)->w.grownBy w' (some b)->wpListIn F nF Tryz.prog ops Q rest (a.put o.dst undef) w'):wpListIn F nF Tryz.prog ops Q (o :: rest) a w:=by
 obtain⟨D,bL,hD⟩:=h;refine wpListIn_mapUpdate_own w hg m x u _ kU _ _ bM Tryz.underlying124 _ b n D hm bL hn _ _ _ hx hu (keyOf_int_mk Tryz.underlying3 hk) _ [] (plainElem_int Tryz.underlying3 hv) (fun w' h1 h2=>hK w' ⟨_,h1,fun y hy=>?_⟩ h2);by_cases e:y=k
 ·subst e
  have qN:=bM.key (keyOf_int_mk Tryz.underlying3 hk);rw[has_put_same bL.isMap qN,atKey_put_same bL.isMap qN];simp
 rw[has_put_other (lX e),atKey_put_other (lX e)];simp only[if_neg e];exact hD y hy
theorem L7 (hg:o.guard=none) (m x:Operand) (kU:o.op=Op.call { callee:=Callee.builtin Builtin.delete,args:=#[m,x],argTypes:=#[124,3] }) {b n:Nat} {f:Int->Option Int} (h:bN w b n f) (hm:a.eval m=.map (some b))
  {k:Int} (hk:bn k) (hx:a.eval x=.int .i64 k)
  (hK:∀ w',bN w' b n (fun y=>if y=k then none else f y)->w.grownBy w' (some b)->wpListIn F nF Tryz.prog ops Q rest (a.put o.dst (.tuple #[])) w'):wpListIn F nF Tryz.prog ops Q (o :: rest) a w:=by
 obtain⟨D,bL,hD⟩:=h;refine wpListIn_delete_own w hg m x _ _ kU _ bM Tryz.underlying124 _ b n D hm bL _ _ hx (keyOf_int_mk Tryz.underlying3 hk) (fun w' h1 h2=>hK w' ⟨_,h1,fun y hy=>?_⟩ h2.grown);by_cases e:y=k
 ·subst e
  rw[has_del_same,atKey_del_same];simp
 rw[has_del_other (lX e),atKey_del_other (lX e)];simp only[if_neg e];exact hD y hy
end
theorem tD {β:Type} {B:Nat} {I:β->World->Prop} (h:∀ s W W' own,I s W->ai own W W'->(∀ j∈own,B<=j/\∀ cs t r,W.heap[j]?≠some (.cells cs t r))->I s W'):OwnFrom B I:=by
 intro s W W' row hs hg hr;refine h s W W' row.toList hs ((ai.refl _ _).grown hg (fun j hj=>Qg (by rw[hj];simp))) (fun j hj=>?_);obtain⟨h1,o,ho,hc⟩:=hr j (by simpa using hj);refine⟨h1,fun cs t r e=>?_⟩;rw[ho] at e;cases e;simp[Obj.isCells] at hc
theorem aJ.low {w:World} {v:Value} {l:List Int} (h:aJ w v l) (hl:l≠[]):∃ b off n c,v=.slice (some ⟨b,off,none⟩) n c/\b<w.heap.size:=by
 obtain⟨ao,cap,rfl,-,-,h3⟩:=h;obtain⟨b,off,rfl,h4⟩:=h3 hl;exact⟨b,off,_,_,rfl,World.block_lt_of_cell? _ _ (h4 0 (List.length_pos_iff.2 hl))⟩
theorem tP {w2 A B:World} {own:List Nat} {Bs rb:Nat} {vd:Value} {ds:List Int} (hd:aJ w2 vd ds) (MC:rb<w2.heap.size) (hc:ai own A B) (ho:∀ j∈own,w2.heap.size<=j/\j≠Bs):lq Bs rb vd ds A B:=by
 refine⟨hc.size,fun h=>?_⟩;obtain⟨h1,h2,h3⟩:=h;refine⟨hc.cell h1 (fun e=>(ho _ e).2 rfl),hc.cell h2 (fun e=>by have:=(ho _ e).1;simp at this;omega),?_⟩;by_cases hl:ds=[]
 ·subst hl
  obtain⟨ao,cap,rfl,-,-,-⟩:=h3;exact⟨ao,cap,rfl,by simp,by simp,by simp⟩
 obtain⟨b,off,n,c,e,hb⟩:=hd.low hl;refine h3.aM hc (fun b' n' c' e' hm=>?_);rw[e] at e';cases e';have:=(ho _ hm).1;simp at this;omega
theorem tG {W:World} {l Bs rb:Nat} {vd:Value} {ds:List Int} {o o':Obj} (ho:W.heap[l]?=some o) (hc:o.isCells=false):lq Bs rb vd ds W (W.putObj l o'):=by
 have dI:ai [l] W (W.putObj l o'):=(ai.refl _ _).grown (grownBy_putObj' W l o') (fun j hj=>by cases hj;exact Qg (by simp));have bh:∀ {b i:Nat} {v:Value},W.cell? ⟨b,i,none⟩=some v->b≠l:=fun h e=>by
  subst e;unfold World.cell? at h;simp only[ho] at h;cases o <;> simp[Obj.isCells] at hc h
 refine⟨dI.size,fun h=>?_⟩;obtain⟨h1,h2,h3⟩:=h;refine⟨dI.cell h1 (by simpa using bh h1),dI.cell h2 (by simpa using bh h2),?_⟩;obtain⟨ao,cap,rfl,k1,k2,k3⟩:=h3;refine⟨ao,cap,rfl,k1,k2,fun hl=>?_⟩;obtain⟨b,off,rfl,k4⟩:=k3 hl;exact⟨b,off,rfl,fun i hi=>dI.cell (k4 i hi) (by simpa using bh (k4 i hi))⟩
theorem pJ {Bs rb:Nat} {vd:Value} {ds:List Int} {A B C:World} (h:lq Bs rb vd ds A B) (k:lq Bs rb vd ds B C):lq Bs rb vd ds A C:=⟨Nat.le_trans h.1 k.1,fun x=>k.2 (h.2 x)⟩
namespace Plain
theorem qE {g:Gr} {p:Pt} (h:p.err g=0) {x:Int} (hx:x∈p.ag):0<=x/\x<2048:=by
 rw[aw] at hx;obtain⟨i,hi,e⟩:=bO hx;have h1:=ct (Pt.aP h).2.2.1 hi;have h2:=Gr.aP (Pt.aP h).1;omega
end Plain
end Go.Proofs.YtbkjljffnkdcjaaGreat
