/- Lists that are turns, met dart by dart. No program here. -/
import Derived.Test.YtbkjljffnkdcjaaS9SetsD
import Derived.Laws.Bits64
namespace Go.Proofs.Ytbkjljffnkdcjaa.Plain
theorem len_le_of_sub:∀ {l m:List Int},l.Nodup→(∀ x∈l,x∈m)→l.length≤m.length
 | [],_,_,_=>Nat.zero_le _
 | x :: l,m,h,hs=>by
  rw[List.nodup_cons] at h
  obtain⟨a,b,rfl⟩:=List.append_of_mem (hs x (by simp))
  have h2:=len_le_of_sub h.2 (m:=a++b) (fun y hy=>by
   have h3:=hs y (by simp[hy])
   have h4:y≠x:=fun e=>h.1 (e ▸ hy)
   simp only[List.mem_append,List.mem_cons] at h3 ⊢
   rcases h3 with q | q | q
   ·exact Or.inl q
   ·exact absurd q h4
   exact Or.inr q)
  simp only[List.length_append,List.length_cons] at h2 ⊢
  omega
def seen (turn:List (List Int)) (k j:Nat):List Int:=(turn.take k).flatten++(turn.getD k []).take j
theorem take_snoc {l:List Int} {j:Nat} (hj:j<l.length):l.take (j+1)=l.take j++[l.getD j 0]:=by
 rw[List.take_succ_eq_append_getElem hj]
 simp[List.getD,hj]
theorem nodup_flat {L:List (List Int)}:L.flatten.Nodup↔(∀ l∈L,l.Nodup)∧L.Pairwise fun a b=>∀ x∈a,∀ y∈b,x≠y:=List.pairwise_flatten
structure Good (g:Gr) (p:Pt) (turn:List (List Int)) (k j:Nat):Prop where
 nodup:(seen turn k j).Nodup
 rows:∀ i,i<k→∀ d∈turn.getD i [],d∈p.darts∧g.tail d=(i:Int)
 last:∀ d∈(turn.getD k []).take j,d∈p.darts∧g.tail d=(k:Int)
open Classical in
noncomputable def turnErr (g:Gr) (p:Pt) (turn:List (List Int)):Int:=if p.err g≠0 then p.err g else if TurnsOk g p turn then 0 else 5
theorem turnErr_part {g:Gr} {p:Pt} {turn:List (List Int)} (h:p.err g≠0):turnErr g p turn=p.err g:=if_pos h
theorem turnErr_bad {g:Gr} {p:Pt} {turn:List (List Int)} (h:p.err g=0) (ht:¬ TurnsOk g p turn):turnErr g p turn=5:=by
 unfold turnErr;rw[if_neg (by simp[h]),if_neg ht]
theorem turnErr_ok {g:Gr} {p:Pt} {turn:List (List Int)} (h:p.err g=0) (ht:TurnsOk g p turn):turnErr g p turn=0:=by
 unfold turnErr;rw[if_neg (by simp[h]),if_pos ht]
theorem turnErr_zero {g:Gr} {p:Pt} {turn:List (List Int)} (h:turnErr g p turn=0):p.err g=0∧TurnsOk g p turn:=by
 by_cases h1:p.err g=0
 ·refine⟨h1,Classical.byContradiction fun h2=>?_⟩
  rw[turnErr_bad h1 h2] at h
  cases h
 rw[turnErr_part h1] at h;exact absurd h h1
end Go.Proofs.Ytbkjljffnkdcjaa.Plain
namespace Go.Proofs.Ytbkjljffnkdcjaa
open Go.RowKit Go.Maps
section
variable (w : World) {ops : Array Oper} {rest : List Oper} {o : Oper} {a : Act} {Q : Exit → Act → World → Prop}
end
theorem lit_two (w:World) {x y:Int} (hx:I64 x) (hy:I64 y):IntsAt (w.alloc (.cells #[.int .i64 x,.int .i64 y] 3)) (.slice (some ⟨w.heap.size,0,none⟩) 2 2) [x,y]:=by
 refine⟨_,2,rfl,by simp[hx,hy],by simp,fun _=>⟨w.heap.size,0,rfl,fun i hi=>?_⟩⟩
 simp at hi
 rw[cell_of_row _ _ _ _ _ _ (heap_alloc_new w _)]
 rcases i with _ | _ | i
 ·rfl
 ·rfl
 omega
namespace Plain
theorem ahead_rot {a b:List Int} (hn:(a++b).Nodup) {x:Int} (hx:x∈a++b):ahead (b++a) x=ahead (a++b) x:=by
 have hn':(b++a).Nodup:=(List.perm_append_comm.nodup_iff).1 hn
 unfold ahead
 rw[List.length_append,List.length_append]
 have hdis:∀ y,y∈a→y∈b→False:=fun y h1 h2=>(List.nodup_append.1 hn).2.2 y h1 y h2 rfl
 have getA:∀ i,i<a.length→(b++a).getD (b.length+i) 0=a.getD i 0:=fun i hi=>by simp[List.getD,List.getElem?_append_right]
 have getA':∀ i,i<a.length→(a++b).getD i 0=a.getD i 0:=fun i hi=>by simp[List.getD,List.getElem?_append_left hi]
 have getB:∀ i,i<b.length→(b++a).getD i 0=b.getD i 0:=fun i hi=>by simp[List.getD,List.getElem?_append_left hi]
 have getB':∀ i,i<b.length→(a++b).getD (a.length+i) 0=b.getD i 0:=fun i hi=>by simp[List.getD,List.getElem?_append_right]
 rcases List.mem_append.1 hx with h | h
 ·have hb:x ∉ b:=fun q=>hdis x h q
  have i1:(b++a).idxOf x=a.idxOf x+b.length:=by rw[List.idxOf_append,if_neg hb]
  have i2:(a++b).idxOf x=a.idxOf x:=by rw[List.idxOf_append,if_pos h]
  have hi:=List.idxOf_lt_length_of_mem h
  rw[i1,i2]
  by_cases h0:a.idxOf x=0
  ·rw[h0]
   by_cases hbl:b.length=0
   ·have:b=[]:=List.length_eq_zero_iff.1 hbl
    subst this
    simp
   rw[show (0+b.length+(b.length+a.length) - 1)=(b.length - 1)+(b.length+a.length) by omega,Nat.add_mod_right,Nat.mod_eq_of_lt (by omega),getB _ (by omega)]
   rw[show 0+(a.length+b.length) - 1=a.length+(b.length - 1) by omega,Nat.mod_eq_of_lt (by omega),getB' _ (by omega)]
  rw[show a.idxOf x+b.length+(b.length+a.length) - 1=(b.length+(a.idxOf x - 1))+(b.length+a.length) by omega,Nat.add_mod_right,Nat.mod_eq_of_lt (by omega),getA _ (by omega)]
  rw[show a.idxOf x+(a.length+b.length) - 1=(a.idxOf x - 1)+(a.length+b.length) by omega,Nat.add_mod_right,Nat.mod_eq_of_lt (by omega),getA' _ (by omega)]
 have ha:x ∉ a:=fun q=>hdis x q h
 have i1:(b++a).idxOf x=b.idxOf x:=by rw[List.idxOf_append,if_pos h]
 have i2:(a++b).idxOf x=b.idxOf x+a.length:=by rw[List.idxOf_append,if_neg ha]
 have hi:=List.idxOf_lt_length_of_mem h
 rw[i1,i2]
 by_cases h0:b.idxOf x=0
 ·rw[h0]
  by_cases hal:a.length=0
  ·have:a=[]:=List.length_eq_zero_iff.1 hal
   subst this
   simp
  rw[show 0+(b.length+a.length) - 1=b.length+(a.length - 1) by omega,Nat.mod_eq_of_lt (by omega),getA _ (by omega)]
  rw[show (0+a.length+(a.length+b.length) - 1)=(a.length - 1)+(a.length+b.length) by omega,Nat.add_mod_right,Nat.mod_eq_of_lt (by omega),getA' _ (by omega)]
 rw[show b.idxOf x+(b.length+a.length) - 1=(b.idxOf x - 1)+(b.length+a.length) by omega,Nat.add_mod_right,Nat.mod_eq_of_lt (by omega),getB _ (by omega)]
 rw[show b.idxOf x+a.length+(a.length+b.length) - 1=(a.length+(b.idxOf x - 1))+(a.length+b.length) by omega,Nat.add_mod_right,Nat.mod_eq_of_lt (by omega),getB' _ (by omega)]
end Plain
theorem bits_twin (d:Nat) (hd:d<4294967296):bits .xor .i64 (d:Int) 1=Plain.twin d:=by
 have hx:d ^^^ 1<2 ^ 33:=Nat.xor_lt_two_pow (by omega) (by omega)
 have h1:(BitVec.ofInt 64 (d:Int)).toNat=d:=by
  rw[BitVec.ofInt_natCast,BitVec.toNat_ofNat];exact Nat.mod_eq_of_lt (by omega)
 have h3:bits .xor .i64 (d:Int) 1=((d ^^^ 1:Nat):Int):=by
  show IntKind.i64.wrap ((BitVec.ofInt 64 (d:Int) ^^^ BitVec.ofInt 64 1).toNat:Int)=_
  rw[BitVec.toNat_xor,h1,show (BitVec.ofInt 64 1).toNat=1 from rfl,IntKind.wrap_i64]
  omega
 rw[h3]
 have h4:(d ^^^ 1) / 2=d / 2:=by rw[Nat.xor_div_two];simp
 have h5:(d ^^^ 1) % 2=(d+1) % 2:=by
  have h6:=Nat.xor_mod_two_pow (a:=d) (b:=1) (n:=1)
  rw[Nat.pow_one] at h6
  rw[h6]
  rcases Nat.mod_two_eq_zero_or_one d with q | q <;> rw[q] <;> simp <;> omega
 unfold Plain.twin
 split <;> omega
inductive Cell where
 | num (k:Int)
 | row (l:List Int)
def Cell.At (w:World) (B:Nat) (v:Value):Cell→Prop
 | num k=>v=.int .i64 k
 | row l=>RowAt w B v l
theorem Cell.At.chg {w w':World} {B:Nat} {v:Value} {c:Cell} {own:List Nat} (h:c.At w B v) (hc:Chg own w w') (hn:∀ b∈v.ownBlock.toList,b ∉ own):c.At w' B v:=by
 cases c with
 | num k=>exact h
 | row l=>exact RowAt.chg h hc hn
theorem Cell.At.base {w:World} {B B':Nat} {v:Value} {c:Cell} (h:c.At w B' v) (hB:B≤B'):c.At w B v:=by
 cases c with
 | num k=>exact h
 | row l=>exact RowAt.base h hB
theorem Cell.At.low {w:World} {B:Nat} {v:Value} {c:Cell} (h:c.At w B v):∀ b,v.ownBlock=some b→B≤b∧b<w.heap.size∧∃ cs r,w.heap[b]?=some (.cells cs 3 r):=by
 intro b hb
 cases c with
 | num k =>
  have h':v=.int .i64 k:=h
  rw[h'] at hb;cases hb
 | row l =>
  have h':RowAt w B v l:=h
  have h1:=h'.low b (by rw[hb];simp)
  exact⟨h1.1,h1.2,row_kind h' b (by rw[h'.foot,hb];simp)⟩
theorem Cell.At.one {w:World} {B:Nat} {v:Value} {c:Cell} (h:c.At w B v):v.oneCell'=true:=by
 cases c with
 | num k =>
  have h':v=.int .i64 k:=h
  rw[h'];rfl
 | row l =>
  obtain⟨ao,cp,e⟩:=RowAt.shape h
  rw[e];rfl
structure Nest (w:World) (B:Nat) (e:TypeId) (sz:Nat) (ov:Value) (n:Nat) (xs:List Value) (cs:List Cell):Prop where
 out:w.ownsRow B e sz ov n xs
 len:xs.length=cs.length
 cells:xs.length=n*sz
 fits:∀ (k:Nat) (c:Cell),cs[k]?=some c→c.At w B (xs.getD k undef)
 apart:∀ k l,k<xs.length→l<xs.length→k≠l→(xs.getD k undef).ownBlock=none∨(xs.getD k undef).ownBlock≠(xs.getD l undef).ownBlock
theorem Nest.nil (w:World) (B:Nat) (e:TypeId) (sz:Nat):Nest w B e sz (.slice none 0 0) 0 [] []:=⟨World.ownsRow_nil _ _ _ _,rfl,by simp,by simp,by simp⟩
section
variable {w w' : World} {B n sz : Nat} {e : TypeId} {ov : Value} {xs : List Value} {cs : List Cell}
theorem Nest.fit (h:Nest w B e sz ov n xs cs) {k:Nat} (hk:k<xs.length):∃ c:Cell,cs[k]?=some c∧c.At w B (xs.getD k undef):=by
 have hk':k<cs.length:=by rw[←h.len];exact hk
 exact⟨cs[k],List.getElem?_eq_getElem hk',h.fits k _ (List.getElem?_eq_getElem hk')⟩
theorem Nest.kind (h:Nest w B e sz ov n xs cs) {k b:Nat} (hk:k<xs.length) (hb:(xs.getD k undef).ownBlock=some b):B≤b∧b<w.heap.size∧∃ cs r,w.heap[b]?=some (.cells cs 3 r):=by
 obtain⟨c,-,hc⟩:=h.fit hk
 exact hc.low b hb
theorem Nest.chg {own:List Nat} (h:Nest w B e sz ov n xs cs) (hc:Chg own w w') (h1:∀ b,ov.ownBlock=some b→b ∉ own) (h2:∀ k b,k<xs.length→(xs.getD k undef).ownBlock=some b→b ∉ own):Nest w' B e sz ov n xs cs :=
 ⟨owns_chg h.out hc h1,h.len,h.cells,fun k c hk=>(h.fits k c hk).chg hc (fun b hb=>h2 k b (by rw[h.len];exact (List.getElem?_eq_some_iff.1 hk).1) (by simpa using hb)),h.apart⟩
theorem Nest.fresh (h:Nest w B e sz ov n xs cs) (hc:Chg [] w w'):Nest w' B e sz ov n xs cs:=h.chg hc (by simp) (by simp)
theorem Nest.other {own:List Nat} (h:Nest w B e sz ov n xs cs) (hc:Chg own w w') (ho:∀ j∈own,(∀ cs t r,w.heap[j]?=some (.cells cs t r)→t≠e∧t≠3)):Nest w' B e sz ov n xs cs:=by
 refine h.chg hc (fun b hb hm=>?_) (fun k b hk hb hm=>?_)
 ·rcases h.out.2 with ⟨rfl,_⟩ | ⟨g,c,cur,rfl,_,hg,_⟩
  ·simp[Value.ownBlock] at hb
  simp[Value.ownBlock] at hb
  subst hb
  exact (ho _ hm _ _ _ hg).1 rfl
 obtain⟨-,-,cs,r,hh⟩:=h.kind hk hb
 exact (ho _ hm _ _ _ hh).2 rfl
theorem Nest.base {B':Nat} (h:Nest w B' e sz ov n xs cs) (hB:B≤B'):Nest w B e sz ov n xs cs :=
 ⟨owns_base h.out hB,h.len,h.cells,fun k c hk=>(h.fits k c hk).base hB,h.apart⟩
theorem getD_left {α:Type} {a b:List α} {d:α} {k:Nat} (hk:k<a.length):(a++b).getD k d=a.getD k d:=by simp[List.getD,List.getElem?_append_left hk]
theorem getD_right {α:Type} {a b:List α} {d:α} {k:Nat} (hk:a.length≤k):(a++b).getD k d=b.getD (k - a.length) d:=by simp[List.getD,List.getElem?_append_right hk]
theorem Nest.add {g cap:Nat} {us:List Value} {ds:List Cell} (h:Nest w B e sz ov n xs cs) (he:e≠3) (hl:us.length=ds.length) (hz:us.length=sz)
  (hu:∀ (k:Nat) (c:Cell),ds[k]?=some c→c.At w B (us.getD k undef)) (hua:∀ k l,k<us.length→l<us.length→k≠l→(us.getD k undef).ownBlock=none∨(us.getD k undef).ownBlock≠(us.getD l undef).ownBlock)
  (hap:∀ k l b,k<xs.length→l<us.length→(xs.getD k undef).ownBlock=some b→(us.getD l undef).ownBlock≠some b)
  (hn:w'.ownsRow B e sz (.slice (some ⟨g,0,none⟩) (n+1) cap) (n+1) (xs++us)) (hc:Chg ov.ownBlock.toList w w') :
  Nest w' B e sz (.slice (some ⟨g,0,none⟩) (n+1) cap) (n+1) (xs++us) (cs++ds):=by
 have hlen:=h.len
 have hno:∀ {v:Value} {c:Cell},c.At w B v→∀ b∈v.ownBlock.toList,b ∉ ov.ownBlock.toList:=by
  intro v c hcell b hb hm
  obtain⟨-,-,cs',r,hh⟩:=hcell.low b (by simpa using hb)
  rcases h.out.2 with ⟨rfl,_⟩ | ⟨g',c',cur,rfl,_,hg,_⟩
  ·simp[Value.ownBlock] at hm
  simp[Value.ownBlock] at hm
  subst hm
  rw[hg] at hh
  simp at hh
  exact he hh.2.1
 refine⟨hn,by simp[hlen,hl],by rw[List.length_append,h.cells,hz,Nat.add_mul,Nat.one_mul],fun k c hk=>?_,fun k l hk hl' hne=>?_⟩
 ·by_cases e1:k<xs.length
  ·rw[getD_left e1]
   rw[List.getElem?_append_left (by omega)] at hk
   exact (h.fits k c hk).chg hc (hno (h.fits k c hk))
  rw[getD_right (by omega)]
  rw[List.getElem?_append_right (by omega)] at hk
  rw[hlen]
  exact (hu _ c hk).chg hc (hno (hu _ c hk))
 rw[List.length_append] at hk hl'
 by_cases e1:k<xs.length
 ·rw[getD_left e1]
  by_cases e2:l<xs.length
  ·rw[getD_left e2]
   exact h.apart k l e1 e2 hne
  rw[getD_right (by omega)]
  cases hq:(xs.getD k undef).ownBlock with
  | none=>exact Or.inl rfl
  | some b=>exact Or.inr (fun q=>hap k _ b e1 (by omega) hq q.symm)
 rw[getD_right (by omega)]
 by_cases e2:l<xs.length
 ·rw[getD_left e2]
  cases hq:(us.getD (k - xs.length) undef).ownBlock with
  | none=>exact Or.inl rfl
  | some b=>exact Or.inr (fun q=>hap l _ b e2 (by omega) q.symm hq)
 rw[getD_right (by omega)]
 exact hua _ _ (by omega) (by omega) (by omega)
theorem getD_set' {α:Type} (l:List α) (i:Nat) (v d:α) (j:Nat) (hi:i<l.length):(l.set i v).getD j d=if j=i then v else l.getD j d:=by
 by_cases e:j=i
 ·subst e;simp[hi]
 simp[List.getD,List.getElem?_set_ne (Ne.symm e),e]
theorem Nest.put {g cap q:Nat} {l m:List Int} {v:Value} (h:Nest w B e sz (.slice (some ⟨g,0,none⟩) n cap) n xs cs) (he:e≠3) (hq:q<xs.length) (hcell:cs[q]?=some (.row l)) (hr:RowAt w' B v m) (hc:Chg (foot (xs.getD q undef)) w w') (hf:∀ b∈foot v,b∈foot (xs.getD q undef)∨w.heap.size≤b) :
  Nest (w'.setCell ⟨g,q,none⟩ v) B e sz (.slice (some ⟨g,0,none⟩) n cap) n (xs.set q v) (cs.set q (.row m)):=by
 have hold:RowAt w B (xs.getD q undef) l:=h.fits q _ hcell
 rw[hold.foot] at hc hf
 rw[hr.foot] at hf
 obtain⟨cur0,hg0⟩:∃ cur0,w.heap[g]?=some (.cells cur0 e (0,0)):=by
  rcases h.out.2 with ⟨q,_⟩ | ⟨g',c',cur,q,_,hg,_⟩
  ·cases q
  simp only[Value.slice.injEq,Option.some.injEq,Addr.mk.injEq] at q
  obtain⟨⟨rfl,-⟩,-⟩:=q
  exact⟨_,hg⟩
 have hgx:∀ k,k<xs.length→(xs.getD k undef).ownBlock≠some g:=by
  intro k hk hb
  obtain⟨-,-,cs',r,hh⟩:=h.kind hk hb
  rw[hg0] at hh
  simp at hh
  exact he hh.2.1
 have hg1:=hc.heap hg0 (by simpa using hgx q hq)
 have hgv:v.ownBlock≠some g:=by
  intro hb
  obtain⟨cs',r,hh⟩:=row_kind hr g (by rw[hr.foot,hb];simp)
  rw[hg1] at hh
  simp at hh
  exact he hh.2.1
 have hout:w'.ownsRow B e sz (.slice (some ⟨g,0,none⟩) n cap) n xs:=owns_chg h.out hc (fun b hb=>by
  simp[Value.ownBlock] at hb
  subst hb
  simpa using hgx q hq)
 have hset:Chg [g] w' (w'.setCell ⟨g,q,none⟩ v):=(Chg.refl _ _).setCell (Or.inl (by simp)) _
 have hs:=hout.stored q v
 refine⟨hs.1,by simp[h.len],by rw[List.length_set];exact h.cells,fun k c hk=>?_,fun k j hk hj hne=>?_⟩
 ·rw[getD_set' _ _ _ _ _ hq]
  by_cases e1:k=q
  ·subst e1
   rw[if_pos rfl]
   rw[List.getElem?_set_self (by rw[←h.len];exact hq)] at hk
   cases hk
   exact hr.chg hset (fun b hb e2=>hgv (by simp at e2 hb;rw[hb,e2]))
  rw[if_neg e1]
  rw[List.getElem?_set_ne (Ne.symm e1)] at hk
  have hkl:k<xs.length:=by rw[h.len];exact (List.getElem?_eq_some_iff.1 hk).1
  refine ((h.fits k c hk).chg hc (fun b hb e2=>?_)).chg hset (fun b hb e2=>hgx k hkl ((Option.mem_toList.1 hb).trans (congrArg _ (List.mem_singleton.1 e2))))
  rcases h.apart k q hkl hq e1 with t | t
  ·rw[t] at hb;simp at hb
  simp at hb e2;exact t (hb.trans e2.symm)
 rw[List.length_set] at hk hj
 rw[getD_set' _ _ _ _ _ hq,getD_set' _ _ _ _ _ hq]
 by_cases e1:k=q
 ·subst e1
  rw[if_pos rfl,if_neg (Ne.symm hne)]
  cases hb:v.ownBlock with
  | none=>exact Or.inl rfl
  | some b =>
   refine Or.inr (fun e2=>?_)
   rcases hf b (by rw[hb];simp) with t | t
   ·rcases h.apart j k hj hk (Ne.symm hne) with s | s
    ·rw[s] at e2;cases e2
    simp at t;exact s (e2.symm.trans t.symm)
   have:=(h.kind hj e2.symm).2.1
   omega
 rw[if_neg e1]
 by_cases e2:j=q
 ·subst e2
  rw[if_pos rfl]
  cases hb:(xs.getD k undef).ownBlock with
  | none=>exact Or.inl rfl
  | some b =>
   refine Or.inr (fun e3=>?_)
   rcases hf b (by rw[←e3];simp) with t | t
   ·rcases h.apart k j hk hj hne with s | s
    ·rw[s] at hb;cases hb
    simp at t;exact s (hb.trans t.symm)
   have:=(h.kind hk hb).2.1
   omega
 rw[if_neg e2]
 exact h.apart k j hk hj hne
theorem Nest.cell {g cap k:Nat} (h:Nest w B e sz (.slice (some ⟨g,0,none⟩) n cap) n xs cs) (hk:k<xs.length):w.cell? ⟨g,k,none⟩=some (xs.getD k undef):=by
 have:=h.out.cells (g:=g) rfl k (xs.getD k undef) (by simp[List.getD,hk])
 have hadd:(⟨g,0,none⟩:Addr).add k=⟨g,k,none⟩:=by unfold Addr.add;split <;> simp_all
 rwa[hadd] at this
theorem Nest.shape (h:Nest w B e sz ov n xs cs):∃ ao c,ov=.slice ao n c:=owns_shape h.out
theorem Nest.some (h:Nest w B e sz ov n xs cs) (hn:0<n):∃ g c,ov=.slice (.some ⟨g,0,none⟩) n c:=owns_some h.out hn
theorem Nest.row {k:Nat} {l:List Int} (h:Nest w B e sz ov n xs cs) (hc:cs[k]?=Option.some (.row l)):RowAt w B (xs.getD k undef) l:=h.fits k _ hc
end
end Go.Proofs.Ytbkjljffnkdcjaa
namespace Go.Proofs.Ytbkjljffnkdcjaa.Plain
def flat (F:List Face):List Int:=(F.map (·.2)).flatten
structure Trk (g:Gr) (p:Pt) (turn:List (List Int)) (F:List Face) (pre:List Int):Prop where
 rings:Rings (nextDart g turn) (F.map (·.2))
 sub:∀ x∈flat F,x∈p.darts
 key:∀ f∈F,∃ l,f.2=f.1 :: l
 keys:(F.map (·.1)).Sublist pre
 least:∀ f∈F,∃ a b,pre=a++f.1 :: b∧∀ y∈f.2,y ∉ a
 cover:∀ x∈pre,x∈flat F
structure Cur (g:Gr) (p:Pt) (turn:List (List Int)) (F:List Face) (d:Int) (L:List Int) (x:Int):Prop where
 nodup:L.Nodup
 sub:∀ y∈L,y∈p.darts∧y ∉ flat F
 way:(L=[]∧x=d)∨∃ l,L=d :: l∧Trail (nextDart g turn) d l x
 mem:x∈p.darts
def loneAt (turn:List (List Int)) (l:List Int):List Face:=(l.reverse.filter fun v=>(turnAt turn v).isEmpty).map fun v=>(-1 - v,[])
structure WalksOk (g:Gr) (p:Pt) (turn:List (List Int)) (W:List Face):Prop where
 faces:FacesOk g p turn W
 split:∃ F,W=loneAt turn p.v++F∧Trk g p turn F p.darts
theorem Trk.walks {g:Gr} {p:Pt} {turn:List (List Int)} {F:List Face} (hp:PartOk g p) (h:Trk g p turn F p.darts):WalksOk g p turn (loneAt turn p.v++F):=by
 have hl1:(loneAt turn p.v).filter (fun f=>!f.2.isEmpty)=[]:=by
  rw[List.filter_eq_nil_iff]
  intro f hf
  obtain⟨v,-,rfl⟩:=List.mem_map.1 hf
  simp
 have hl2:(loneAt turn p.v).filter (fun f=>f.2.isEmpty)=loneAt turn p.v:=by
  rw[List.filter_eq_self]
  intro f hf
  obtain⟨v,-,rfl⟩:=List.mem_map.1 hf
  simp
 have hne:∀ f∈F,f.2.isEmpty=false:=fun f hf=>by
  obtain⟨l,e⟩:=h.key f hf
  rw[e];rfl
 have hF1:F.filter (fun f=>!f.2.isEmpty)=F:=List.filter_eq_self.2 fun f hf=>by rw[hne f hf];rfl
 have hF2:F.filter (fun f=>f.2.isEmpty)=[]:=List.filter_eq_nil_iff.2 fun f hf=>by rw[hne f hf];simp
 refine⟨⟨?_,?_,fun f hf d l e=>?_,?_⟩,F,rfl,h⟩
 ·rw[List.filter_append,hl1,hF1];exact h.rings
 ·rw[List.filter_append,hl1,hF1]
  exact (List.perm_ext_iff_of_nodup h.rings.nodup (darts_nodup hp.en)).2 fun x=>⟨h.sub x,h.cover x⟩
 ·rcases List.mem_append.1 hf with q | q
  ·obtain⟨v,-,rfl⟩:=List.mem_map.1 q
   cases e
  obtain⟨l',e'⟩:=h.key f q
  rw[e'] at e
  cases e;rfl
 rw[List.filter_append,hl2,hF2,List.append_nil]
 unfold loneAt
 rw[List.map_map]
 exact ((List.reverse_perm p.v).filter _).map _
end Go.Proofs.Ytbkjljffnkdcjaa.Plain
