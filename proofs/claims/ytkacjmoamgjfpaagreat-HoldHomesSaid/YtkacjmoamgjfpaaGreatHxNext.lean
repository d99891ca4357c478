/- package rota: Next of turns: the dart behind one around its face. Conditions: turns that are turns, a dart of the part. -/
import Derived.Test.YtkacjmoamgjfpaaGreatHxNew
import Derived.Laws.Bits64
import Derived.RangeFuncNested
import Derived.RangeFuncBound
import Derived.RangeFuncCalls
import Derived.RangeFuncLeaves
import Derived.RangeFuncBox
import Derived.Shelf.Abstract
import Derived.Shelf.AbstractIn
import Derived.Shelf.RegionOpen
import Derived.OwnWalkIn
import Derived.TacticsInMore
import Derived.LoopNIn
import Derived.LoopIn
import Derived.Maps.OwnIn
namespace Go.Proofs.YtkacjmoamgjfpaaGreat
open Go.RowKit Go.Maps
namespace Plain
theorem placeRow_eq (f:Int→Option Int) {L:List Int} (hn:L.Nodup):∀ k,k≤L.length→∀ y,placeRow f L k y=if y∈L.take k then some ((L.idxOf y:Nat):Int) else f y
 | 0,_,y=>by simp[placeRow]
 | k+1,hk,y=>by
  unfold placeRow
  rw[placeRow_eq f hn k (by omega) y,take_snoc (show k<L.length by omega)]
  simp only[List.mem_append,List.mem_singleton]
  by_cases e:y=L.getD k 0
  ·rw[if_pos e,if_pos (Or.inr e),e,idxOf_at hn (by omega)]
  rw[if_neg e]
  by_cases h:y∈L.take k
  ·rw[if_pos h,if_pos (Or.inl h)]
  rw[if_neg h,if_neg (fun q=>q.elim h e)]
theorem first_nodup {l:List Int} (h:l.Nodup):(first l).Nodup:=by
 have hp:(first l).Perm l:=by
  unfold first
  exact List.perm_append_comm.trans (by rw[List.take_append_drop])
 exact hp.nodup_iff.2 h
theorem places_skip {T:List (List Int)} {y:Int} (hn:∀ i,i<T.length→(T.getD i []).Nodup):∀ (j k:Nat),k+j≤T.length→(∀ i,k≤i→i<k+j→y ∉ T.getD i [])→places T (k+j) y=places T k y
 | 0,_,_,_=>rfl
 | j+1,k,h,hy=>by
  show placeRow (places T (k+j)) (first (T.getD (k+j) [])) (first (T.getD (k+j) [])).length y=_
  rw[placeRow_eq _ (first_nodup (hn (k+j) (by omega))) _ (Nat.le_refl _),List.take_length,if_neg (by rw[first_mem];exact hy (k+j) (by omega) (by omega))]
  exact places_skip hn j k (by omega) (fun i h1 h2=>hy i h1 (by omega))
theorem places_at {T:List (List Int)} (hn:∀ i,i<T.length→(T.getD i []).Nodup) {v:Nat} (hv:v<T.length) {d:Int} (hd:d∈T.getD v []) (hu:∀ i,i<T.length→d∈T.getD i []→i=v):places T T.length d=some (((first (T.getD v [])).idxOf d:Nat):Int):=by
 obtain⟨j,hj⟩:∃ j,T.length=(v+1)+j:=⟨T.length - (v+1),by omega⟩
 have h1:=places_skip (y:=d) hn j (v+1) (by omega) (fun i h1 h2 h3=>by have:=hu i (by omega) h3;omega)
 rw[←hj] at h1
 rw[h1]
 show placeRow (places T v) _ _ d=_
 rw[placeRow_eq _ (first_nodup (hn v hv)) _ (Nat.le_refl _),List.take_length,if_pos ((first_mem _ _).2 hd)]
theorem ahead_rot {a b:List Int} (hn:(a++b).Nodup) {x:Int} (hx:x∈a++b):ahead (b++a) x=ahead (a++b) x:=by
 have hn':(b++a).Nodup:=(List.perm_append_comm.nodup_iff).1 hn
 unfold ahead
 rw[List.length_append,List.length_append]
 have hdis:∀ y,y∈a→y∈b→False:=fun y h1 h2=>(List.nodup_append.1 hn).2.2 y h1 y h2 rfl
 have getA:∀ i,i<a.length→(b++a).getD (b.length+i) 0=a.getD i 0:=fun i hi=>by simp[List.getD,List.getElem?_append_right]
 have getA':∀ i,i<a.length→(a++b).getD i 0=a.getD i 0:=fun i hi=>by simp[List.getD,List.getElem?_append_left hi]
 have getB:∀ i,i<b.length→(b++a).getD i 0=b.getD i 0:=fun i hi=>by simp[List.getD,List.getElem?_append_left hi]
 have getB':∀ i,i<b.length→(a++b).getD (a.length+i) 0=b.getD i 0:=fun i hi=>by simp[List.getD,List.getElem?_append_right]
 rcases List.mem_append.1 hx with h | h
 ·have hb:x ∉ b:=fun q=>hdis x h q
  have i1:(b++a).idxOf x=a.idxOf x+b.length:=by rw[List.idxOf_append,if_neg hb]
  have i2:(a++b).idxOf x=a.idxOf x:=by rw[List.idxOf_append,if_pos h]
  have hi:=List.idxOf_lt_length_of_mem h
  rw[i1,i2]
  by_cases h0:a.idxOf x=0
  ·rw[h0]
   by_cases hbl:b.length=0
   ·have:b=[]:=List.length_eq_zero_iff.1 hbl
    subst this
    simp
   rw[show (0+b.length+(b.length+a.length) - 1)=(b.length - 1)+(b.length+a.length) by omega,Nat.add_mod_right,Nat.mod_eq_of_lt (by omega),getB _ (by omega)]
   rw[show 0+(a.length+b.length) - 1=a.length+(b.length - 1) by omega,Nat.mod_eq_of_lt (by omega),getB' _ (by omega)]
  rw[show a.idxOf x+b.length+(b.length+a.length) - 1=(b.length+(a.idxOf x - 1))+(b.length+a.length) by omega,Nat.add_mod_right,Nat.mod_eq_of_lt (by omega),getA _ (by omega)]
  rw[show a.idxOf x+(a.length+b.length) - 1=(a.idxOf x - 1)+(a.length+b.length) by omega,Nat.add_mod_right,Nat.mod_eq_of_lt (by omega),getA' _ (by omega)]
 have ha:x ∉ a:=fun q=>hdis x q h
 have i1:(b++a).idxOf x=b.idxOf x:=by rw[List.idxOf_append,if_pos h]
 have i2:(a++b).idxOf x=b.idxOf x+a.length:=by rw[List.idxOf_append,if_neg ha]
 have hi:=List.idxOf_lt_length_of_mem h
 rw[i1,i2]
 by_cases h0:b.idxOf x=0
 ·rw[h0]
  by_cases hal:a.length=0
  ·have:a=[]:=List.length_eq_zero_iff.1 hal
   subst this
   simp
  rw[show 0+(b.length+a.length) - 1=b.length+(a.length - 1) by omega,Nat.mod_eq_of_lt (by omega),getA _ (by omega)]
  rw[show (0+a.length+(a.length+b.length) - 1)=(a.length - 1)+(a.length+b.length) by omega,Nat.add_mod_right,Nat.mod_eq_of_lt (by omega),getA' _ (by omega)]
 rw[show b.idxOf x+(b.length+a.length) - 1=(b.idxOf x - 1)+(b.length+a.length) by omega,Nat.add_mod_right,Nat.mod_eq_of_lt (by omega),getB _ (by omega)]
 rw[show b.idxOf x+a.length+(a.length+b.length) - 1=(a.length+(b.idxOf x - 1))+(a.length+b.length) by omega,Nat.add_mod_right,Nat.mod_eq_of_lt (by omega),getB' _ (by omega)]
theorem ahead_first {l:List Int} (hn:l.Nodup) {x:Int} (hx:x∈l):ahead (first l) x=ahead l x:=by
 unfold first
 have:=ahead_rot (a:=l.take (lst l l.length)) (b:=l.drop (lst l l.length)) (by rw[List.take_append_drop];exact hn) (by rw[List.take_append_drop];exact hx)
 rw[this,List.take_append_drop]
end Plain
theorem bits_twin (d:Nat) (hd:d<4294967296):bits .xor .i64 (d:Int) 1=Plain.twin d:=by
 have hx:d ^^^ 1<2 ^ 33:=Nat.xor_lt_two_pow (by omega) (by omega)
 have h1:(BitVec.ofInt 64 (d:Int)).toNat=d:=by
  rw[BitVec.ofInt_natCast,BitVec.toNat_ofNat];exact Nat.mod_eq_of_lt (by omega)
 have h3:bits .xor .i64 (d:Int) 1=((d ^^^ 1:Nat):Int):=by
  show IntKind.i64.wrap ((BitVec.ofInt 64 (d:Int) ^^^ BitVec.ofInt 64 1).toNat:Int)=_
  rw[BitVec.toNat_xor,h1,show (BitVec.ofInt 64 1).toNat=1 from rfl,IntKind.wrap_i64]
  omega
 rw[h3]
 have h4:(d ^^^ 1) / 2=d / 2:=by rw[Nat.xor_div_two];simp
 have h5:(d ^^^ 1) % 2=(d+1) % 2:=by
  have h6:=Nat.xor_mod_two_pow (a:=d) (b:=1) (n:=1)
  rw[Nat.pow_one] at h6
  rw[h6]
  rcases Nat.mod_two_eq_zero_or_one d with q | q <;> rw[q] <;> simp <;> omega
 unfold Plain.twin
 split <;> omega
theorem next_some (rb:Nat) (g:Plain.Gr) (p:Plain.Pt) (turn:List (List Int)) (vt vd:Value) (lb pb n m:Nat) (d:Nat) (w:World) (hp:Plain.PartOk g p) (hT:Plain.TurnsOk g p turn) (hTL:turn.length<2147483648) (hS:Plain.sumLen turn turn.length<2147483648) (hd:(d:Int)∈p.darts) (hd2:(d:Int)<4294967296)
  (h:RotaAt w rb (turn.map Plain.first) (fun d=>if d∈p.darts then some (g.tail d) else none) (Plain.places turn turn.length) p.darts vt vd lb pb n m) :
  Calls Tryz.prog 141 #[.pointer (some ⟨rb,0,none⟩),.int .i64 d] w fun e w'=>e=.returned (.tuple #[.int .i64 (Plain.nextDart g turn d),.bool true])∧w=w':=by
 have HB:=lh (bits_twin d (by omega))
 have HRO:=lh h
 have htw:=Plain.twin_mem hd
 have hv:=hp.vr _ (hp.tail_mem htw).1
 obtain⟨v,hve⟩:∃ v:Nat,g.tail (Plain.twin d)=(v:Int):=⟨(g.tail (Plain.twin d)).toNat,by omega⟩
 have hvT:v<turn.length:=by have:=hT.len;omega
 have hmem:Plain.twin d∈turn.getD v []:=by
  have:=(hT.mem (v:Int) (by omega) (by rw[←hve];exact hv.2) (Plain.twin d)).2 ⟨htw,hve⟩
  simpa[Plain.turnAt] using this
 have hnn:∀ i,i<turn.length→(turn.getD i []).Nodup:=fun i hi=>by have:=hT.nodup (i:Int);simpa[Plain.turnAt] using this
 have hpl:=Plain.places_at hnn hvT hmem (fun i hi hm=>by have:=(hT.row hi hm).2;omega)
 have hmap:(turn.map Plain.first).getD v []=Plain.first (turn.getD v []):=by simp[List.getD,hvT]
 have hsl:(turn.getD v []).length<2147483648:=by
  have h1:Plain.sumLen turn (v+1)=Plain.sumLen turn v+(turn.getD v []).length:=rfl
  have h2:=Plain.sumLen_mono turn (show v+1≤turn.length from hvT)
  omega
 have hah:Plain.nextDart g turn d=Plain.ahead (Plain.first (turn.getD v [])) (Plain.twin d):=by
  rw[Plain.ahead_first (hnn v hvT) hmem]
  unfold Plain.nextDart Plain.before Plain.turnAt
  rw[hve];rfl
 have hfl:=Plain.first_length (turn.getD v [])
 have hil:(Plain.first (turn.getD v [])).idxOf (Plain.twin d)<(Plain.first (turn.getD v [])).length:=List.idxOf_lt_length_of_mem ((Plain.first_mem _ _).2 hmem)
 have htd:0≤Plain.twin d∧Plain.twin d≤d+1:=by unfold Plain.twin;split <;> omega
 have HC:=lh (beside_some rb (turn.map Plain.first) (fun d=>if d∈p.darts then some (g.tail d) else none) (Plain.places turn turn.length) p.darts vt vd lb pb n m (Plain.twin d) (-1) v ((Plain.first (turn.getD v [])).idxOf (Plain.twin d)) (((Plain.first (turn.getD v [])).idxOf (Plain.twin d)+(Plain.first (turn.getD v [])).length - 1) % (Plain.first (turn.getD v [])).length) w (I64.mk (by omega) (by omega)) (by show (if _ then _ else _)=_;rw[if_pos htw,hve]) hpl (by simpa using hvT) (by rw[List.length_map];omega) (by rw[hmap];exact hil) (by rw[hmap];omega) (by omega) (by
   rw[hmap]
   generalize (Plain.first (turn.getD v [])).length=len at *
   generalize (Plain.first (turn.getD v [])).idxOf (Plain.twin d)=i at *
   rw[Int.tmod_eq_emod_of_nonneg (by omega),show (i:Int) + -1+(len:Int)=((i+len - 1:Nat):Int) by omega]
   exact (Int.natCast_emod _ _).symm) (by rw[hmap];exact Nat.mod_lt _ (by omega)) h)
 rw[hmap,show (Plain.first (turn.getD v [])).getD (((Plain.first (turn.getD v [])).idxOf (Plain.twin d)+(Plain.first (turn.getD v [])).length - 1) % (Plain.first (turn.getD v [])).length) 0=Plain.nextDart g turn d from hah.symm] at HC
 clear h htw hv hve hvT hmem hnn hpl hmap hsl hah hfl hil htd
 go_enter Tryz.func141,Tryz.ntmps141
 go_wp2_with fail
 rw[HB.out]
 refine HC.out.mono ?_
 rintro e w2 ⟨rfl,rfl⟩
 go_wp2
 exact bodyPost_ret (v:=.tuple #[.int .i64 (Plain.nextDart g turn d),.bool true]) (by simp[results,Tryz.results141,go_sem]) rfl ⟨rfl,rfl⟩
end Go.Proofs.YtkacjmoamgjfpaaGreat
namespace Go.Proofs.YtkacjmoamgjfpaaGreat
open Go.RowKit Go.Maps
inductive Cell where
 | num (k:Int)
 | row (l:List Int)
def Cell.At (w:World) (B:Nat) (v:Value):Cell→Prop
 | num k=>v=.int .i64 k
 | row l=>RowAt w B v l
theorem Cell.At.chg {w w':World} {B:Nat} {v:Value} {c:Cell} {own:List Nat} (h:c.At w B v) (hc:Chg own w w') (hn:∀ b∈v.ownBlock.toList,b ∉ own):c.At w' B v:=by
 cases c with
 | num k=>exact h
 | row l=>exact RowAt.chg h hc hn
theorem Cell.At.base {w:World} {B B':Nat} {v:Value} {c:Cell} (h:c.At w B' v) (hB:B≤B'):c.At w B v:=by
 cases c with
 | num k=>exact h
 | row l=>exact RowAt.base h hB
theorem Cell.At.low {w:World} {B:Nat} {v:Value} {c:Cell} (h:c.At w B v):∀ b,v.ownBlock=some b→B≤b∧b<w.heap.size∧∃ cs r,w.heap[b]?=some (.cells cs 3 r):=by
 intro b hb
 cases c with
 | num k =>
  have h':v=.int .i64 k:=h
  rw[h'] at hb;cases hb
 | row l =>
  have h':RowAt w B v l:=h
  have h1:=h'.low b (by rw[hb];simp)
  exact⟨h1.1,h1.2,row_kind h' b (by rw[h'.foot,hb];simp)⟩
structure Nest (w:World) (B:Nat) (e:TypeId) (sz:Nat) (ov:Value) (n:Nat) (xs:List Value) (cs:List Cell):Prop where
 out:w.ownsRow B e sz ov n xs
 len:xs.length=cs.length
 cells:xs.length=n*sz
 fits:∀ (k:Nat) (c:Cell),cs[k]?=some c→c.At w B (xs.getD k undef)
 apart:∀ k l,k<xs.length→l<xs.length→k≠l→(xs.getD k undef).ownBlock=none∨(xs.getD k undef).ownBlock≠(xs.getD l undef).ownBlock
theorem Nest.nil (w:World) (B:Nat) (e:TypeId) (sz:Nat):Nest w B e sz (.slice none 0 0) 0 [] []:=⟨World.ownsRow_nil _ _ _ _,rfl,by simp,by simp,by simp⟩
section
variable {w w' : World} {B n sz : Nat} {e : TypeId} {ov : Value} {xs : List Value} {cs : List Cell}
theorem Nest.fit (h:Nest w B e sz ov n xs cs) {k:Nat} (hk:k<xs.length):∃ c:Cell,cs[k]?=some c∧c.At w B (xs.getD k undef):=by
 have hk':k<cs.length:=by rw[←h.len];exact hk
 exact⟨cs[k],List.getElem?_eq_getElem hk',h.fits k _ (List.getElem?_eq_getElem hk')⟩
theorem Nest.kind (h:Nest w B e sz ov n xs cs) {k b:Nat} (hk:k<xs.length) (hb:(xs.getD k undef).ownBlock=some b):B≤b∧b<w.heap.size∧∃ cs r,w.heap[b]?=some (.cells cs 3 r):=by
 obtain⟨c,-,hc⟩:=h.fit hk
 exact hc.low b hb
theorem Nest.chg {own:List Nat} (h:Nest w B e sz ov n xs cs) (hc:Chg own w w') (h1:∀ b,ov.ownBlock=some b→b ∉ own) (h2:∀ k b,k<xs.length→(xs.getD k undef).ownBlock=some b→b ∉ own):Nest w' B e sz ov n xs cs :=
 ⟨owns_chg h.out hc h1,h.len,h.cells,fun k c hk=>(h.fits k c hk).chg hc (fun b hb=>h2 k b (by rw[h.len];exact (List.getElem?_eq_some_iff.1 hk).1) (by simpa using hb)),h.apart⟩
theorem Nest.fresh (h:Nest w B e sz ov n xs cs) (hc:Chg [] w w'):Nest w' B e sz ov n xs cs:=h.chg hc (by simp) (by simp)
theorem Nest.other {own:List Nat} (h:Nest w B e sz ov n xs cs) (hc:Chg own w w') (ho:∀ j∈own,(∀ cs t r,w.heap[j]?=some (.cells cs t r)→t≠e∧t≠3)):Nest w' B e sz ov n xs cs:=by
 refine h.chg hc (fun b hb hm=>?_) (fun k b hk hb hm=>?_)
 ·rcases h.out.2 with ⟨rfl,_⟩ | ⟨g,c,cur,rfl,_,hg,_⟩
  ·simp[Value.ownBlock] at hb
  simp[Value.ownBlock] at hb
  subst hb
  exact (ho _ hm _ _ _ hg).1 rfl
 obtain⟨-,-,cs,r,hh⟩:=h.kind hk hb
 exact (ho _ hm _ _ _ hh).2 rfl
theorem Nest.base {B':Nat} (h:Nest w B' e sz ov n xs cs) (hB:B≤B'):Nest w B e sz ov n xs cs :=
 ⟨owns_base h.out hB,h.len,h.cells,fun k c hk=>(h.fits k c hk).base hB,h.apart⟩
theorem getD_left {α:Type} {a b:List α} {d:α} {k:Nat} (hk:k<a.length):(a++b).getD k d=a.getD k d:=by simp[List.getD,List.getElem?_append_left hk]
theorem getD_right {α:Type} {a b:List α} {d:α} {k:Nat} (hk:a.length≤k):(a++b).getD k d=b.getD (k - a.length) d:=by simp[List.getD,List.getElem?_append_right hk]
theorem Nest.add {g cap:Nat} {us:List Value} {ds:List Cell} (h:Nest w B e sz ov n xs cs) (he:e≠3) (hl:us.length=ds.length) (hz:us.length=sz)
  (hu:∀ (k:Nat) (c:Cell),ds[k]?=some c→c.At w B (us.getD k undef)) (hua:∀ k l,k<us.length→l<us.length→k≠l→(us.getD k undef).ownBlock=none∨(us.getD k undef).ownBlock≠(us.getD l undef).ownBlock)
  (hap:∀ k l b,k<xs.length→l<us.length→(xs.getD k undef).ownBlock=some b→(us.getD l undef).ownBlock≠some b)
  (hn:w'.ownsRow B e sz (.slice (some ⟨g,0,none⟩) (n+1) cap) (n+1) (xs++us)) (hc:Chg ov.ownBlock.toList w w') :
  Nest w' B e sz (.slice (some ⟨g,0,none⟩) (n+1) cap) (n+1) (xs++us) (cs++ds):=by
 have hlen:=h.len
 have hno:∀ {v:Value} {c:Cell},c.At w B v→∀ b∈v.ownBlock.toList,b ∉ ov.ownBlock.toList:=by
  intro v c hcell b hb hm
  obtain⟨-,-,cs',r,hh⟩:=hcell.low b (by simpa using hb)
  rcases h.out.2 with ⟨rfl,_⟩ | ⟨g',c',cur,rfl,_,hg,_⟩
  ·simp[Value.ownBlock] at hm
  simp[Value.ownBlock] at hm
  subst hm
  rw[hg] at hh
  simp at hh
  exact he hh.2.1
 refine⟨hn,by simp[hlen,hl],by rw[List.length_append,h.cells,hz,Nat.add_mul,Nat.one_mul],fun k c hk=>?_,fun k l hk hl' hne=>?_⟩
 ·by_cases e1:k<xs.length
  ·rw[getD_left e1]
   rw[List.getElem?_append_left (by omega)] at hk
   exact (h.fits k c hk).chg hc (hno (h.fits k c hk))
  rw[getD_right (by omega)]
  rw[List.getElem?_append_right (by omega)] at hk
  rw[hlen]
  exact (hu _ c hk).chg hc (hno (hu _ c hk))
 rw[List.length_append] at hk hl'
 by_cases e1:k<xs.length
 ·rw[getD_left e1]
  by_cases e2:l<xs.length
  ·rw[getD_left e2]
   exact h.apart k l e1 e2 hne
  rw[getD_right (by omega)]
  cases hq:(xs.getD k undef).ownBlock with
  | none=>exact Or.inl rfl
  | some b=>exact Or.inr (fun q=>hap k _ b e1 (by omega) hq q.symm)
 rw[getD_right (by omega)]
 by_cases e2:l<xs.length
 ·rw[getD_left e2]
  cases hq:(us.getD (k - xs.length) undef).ownBlock with
  | none=>exact Or.inl rfl
  | some b=>exact Or.inr (fun q=>hap l _ b e2 (by omega) q.symm hq)
 rw[getD_right (by omega)]
 exact hua _ _ (by omega) (by omega) (by omega)
theorem getD_set' {α:Type} (l:List α) (i:Nat) (v d:α) (j:Nat) (hi:i<l.length):(l.set i v).getD j d=if j=i then v else l.getD j d:=by
 by_cases e:j=i
 ·subst e;simp[hi]
 simp[List.getD,List.getElem?_set_ne (Ne.symm e),e]
theorem Nest.put {g cap q:Nat} {l m:List Int} {v:Value} (h:Nest w B e sz (.slice (some ⟨g,0,none⟩) n cap) n xs cs) (he:e≠3) (hq:q<xs.length) (hcell:cs[q]?=some (.row l)) (hr:RowAt w' B v m) (hc:Chg (foot (xs.getD q undef)) w w') (hf:∀ b∈foot v,b∈foot (xs.getD q undef)∨w.heap.size≤b) :
  Nest (w'.setCell ⟨g,q,none⟩ v) B e sz (.slice (some ⟨g,0,none⟩) n cap) n (xs.set q v) (cs.set q (.row m)):=by
 have hold:RowAt w B (xs.getD q undef) l:=h.fits q _ hcell
 rw[hold.foot] at hc hf
 rw[hr.foot] at hf
 obtain⟨cur0,hg0⟩:∃ cur0,w.heap[g]?=some (.cells cur0 e (0,0)):=by
  rcases h.out.2 with ⟨q,_⟩ | ⟨g',c',cur,q,_,hg,_⟩
  ·cases q
  simp only[Value.slice.injEq,Option.some.injEq,Addr.mk.injEq] at q
  obtain⟨⟨rfl,-⟩,-⟩:=q
  exact⟨_,hg⟩
 have hgx:∀ k,k<xs.length→(xs.getD k undef).ownBlock≠some g:=by
  intro k hk hb
  obtain⟨-,-,cs',r,hh⟩:=h.kind hk hb
  rw[hg0] at hh
  simp at hh
  exact he hh.2.1
 have hg1:=hc.heap hg0 (by simpa using hgx q hq)
 have hgv:v.ownBlock≠some g:=by
  intro hb
  obtain⟨cs',r,hh⟩:=row_kind hr g (by rw[hr.foot,hb];simp)
  rw[hg1] at hh
  simp at hh
  exact he hh.2.1
 have hout:w'.ownsRow B e sz (.slice (some ⟨g,0,none⟩) n cap) n xs:=owns_chg h.out hc (fun b hb=>by
  simp[Value.ownBlock] at hb
  subst hb
  simpa using hgx q hq)
 have hset:Chg [g] w' (w'.setCell ⟨g,q,none⟩ v):=(Chg.refl _ _).setCell (Or.inl (by simp)) _
 have hs:=hout.stored q v
 refine⟨hs.1,by simp[h.len],by rw[List.length_set];exact h.cells,fun k c hk=>?_,fun k j hk hj hne=>?_⟩
 ·rw[getD_set' _ _ _ _ _ hq]
  by_cases e1:k=q
  ·subst e1
   rw[if_pos rfl]
   rw[List.getElem?_set_self (by rw[←h.len];exact hq)] at hk
   cases hk
   exact hr.chg hset (fun b hb e2=>hgv (by simp at e2 hb;rw[hb,e2]))
  rw[if_neg e1]
  rw[List.getElem?_set_ne (Ne.symm e1)] at hk
  have hkl:k<xs.length:=by rw[h.len];exact (List.getElem?_eq_some_iff.1 hk).1
  refine ((h.fits k c hk).chg hc (fun b hb e2=>?_)).chg hset (fun b hb e2=>hgx k hkl ((Option.mem_toList.1 hb).trans (congrArg _ (List.mem_singleton.1 e2))))
  rcases h.apart k q hkl hq e1 with t | t
  ·rw[t] at hb;simp at hb
  simp at hb e2;exact t (hb.trans e2.symm)
 rw[List.length_set] at hk hj
 rw[getD_set' _ _ _ _ _ hq,getD_set' _ _ _ _ _ hq]
 by_cases e1:k=q
 ·subst e1
  rw[if_pos rfl,if_neg (Ne.symm hne)]
  cases hb:v.ownBlock with
  | none=>exact Or.inl rfl
  | some b =>
   refine Or.inr (fun e2=>?_)
   rcases hf b (by rw[hb];simp) with t | t
   ·rcases h.apart j k hj hk (Ne.symm hne) with s | s
    ·rw[s] at e2;cases e2
    simp at t;exact s (e2.symm.trans t.symm)
   have:=(h.kind hj e2.symm).2.1
   omega
 rw[if_neg e1]
 by_cases e2:j=q
 ·subst e2
  rw[if_pos rfl]
  cases hb:(xs.getD k undef).ownBlock with
  | none=>exact Or.inl rfl
  | some b =>
   refine Or.inr (fun e3=>?_)
   rcases hf b (by rw[←e3];simp) with t | t
   ·rcases h.apart k j hk hj hne with s | s
    ·rw[s] at hb;cases hb
    simp at t;exact s (hb.trans t.symm)
   have:=(h.kind hk hb).2.1
   omega
 rw[if_neg e2]
 exact h.apart k j hk hj hne
theorem Nest.cell {g cap k:Nat} (h:Nest w B e sz (.slice (some ⟨g,0,none⟩) n cap) n xs cs) (hk:k<xs.length):w.cell? ⟨g,k,none⟩=some (xs.getD k undef):=by
 have:=h.out.cells (g:=g) rfl k (xs.getD k undef) (by simp[List.getD,hk])
 have hadd:(⟨g,0,none⟩:Addr).add k=⟨g,k,none⟩:=by unfold Addr.add;split <;> simp_all
 rwa[hadd] at this
theorem Nest.shape (h:Nest w B e sz ov n xs cs):∃ ao c,ov=.slice ao n c:=owns_shape h.out
theorem Nest.some (h:Nest w B e sz ov n xs cs) (hn:0<n):∃ g c,ov=.slice (.some ⟨g,0,none⟩) n c:=owns_some h.out hn
theorem Nest.num {k:Nat} {z:Int} (h:Nest w B e sz ov n xs cs) (hc:cs[k]?=Option.some (.num z)):xs.getD k undef=.int .i64 z:=h.fits k _ hc
theorem Nest.row {k:Nat} {l:List Int} (h:Nest w B e sz ov n xs cs) (hc:cs[k]?=Option.some (.row l)):RowAt w B (xs.getD k undef) l:=h.fits k _ hc
end
end Go.Proofs.YtkacjmoamgjfpaaGreat
namespace Go.Proofs.YtkacjmoamgjfpaaGreat.Plain
theorem next_mem {g:Gr} {p:Pt} {turn:List (List Int)} (hp:PartOk g p) (ht:TurnsOk g p turn) {x:Int} (hx:x∈p.darts):nextDart g turn x∈p.darts :=
 (next_tail ht (fun _ hd=>hp.vr _ (hp.tail_mem hd).1) hx).1
theorem next_inj {g:Gr} {p:Pt} {turn:List (List Int)} (hp:PartOk g p) (ht:TurnsOk g p turn) {x y:Int} (hx:x∈p.darts) (hy:y∈p.darts) (e:nextDart g turn x=nextDart g turn y):x=y:=by
 obtain⟨h1,h2⟩:=before_rings ht hp.en hp.vn hp.vr
 have hm:∀ z,z∈p.darts→twin z∈((busy turn p.v).map fun v=>(turnAt turn v).reverse).flatten:=fun z hz =>
  h2.mem_iff.2 (List.mem_filter.2 ⟨twin_mem hz,decide_eq_true (hp.tail_mem (twin_mem hz)).1⟩)
 have:=h1.inj _ (hm x hx) _ (hm y hy) e
 rw[←twin_twin x,this,twin_twin]
def flat (F:List Face):List Int:=(F.map (·.2)).flatten
theorem flat_snoc (F:List Face) (f:Face):flat (F++[f])=flat F++f.2:=by simp[flat]
structure Trk (g:Gr) (p:Pt) (turn:List (List Int)) (F:List Face) (pre:List Int):Prop where
 rings:Rings (nextDart g turn) (F.map (·.2))
 sub:∀ x∈flat F,x∈p.darts
 key:∀ f∈F,∃ l,f.2=f.1 :: l
 keys:(F.map (·.1)).Sublist pre
 least:∀ f∈F,∃ a b,pre=a++f.1 :: b∧∀ y∈f.2,y ∉ a
 cover:∀ x∈pre,x∈flat F
theorem Trk.start (g:Gr) (p:Pt) (turn:List (List Int)):Trk g p turn [] []:=⟨⟨by simp,by simp⟩,by simp[flat],by simp,by simp,by simp,by simp⟩
theorem Trk.skip {g:Gr} {p:Pt} {turn:List (List Int)} {F:List Face} {pre:List Int} (h:Trk g p turn F pre) {d:Int} (hd:d∈flat F):Trk g p turn F (pre++[d]):=by
 refine⟨h.rings,h.sub,h.key,h.keys.trans (List.sublist_append_left _ _),fun f hf=>?_,fun x hx=>?_⟩
 ·obtain⟨a,b,e,ha⟩:=h.least f hf
  exact⟨a,b++[d],by rw[e];simp,ha⟩
 rcases List.mem_append.1 hx with q | q
 ·exact h.cover x q
 rw[List.mem_singleton.1 q];exact hd
structure Cur (g:Gr) (p:Pt) (turn:List (List Int)) (F:List Face) (d:Int) (L:List Int) (x:Int):Prop where
 nodup:L.Nodup
 sub:∀ y∈L,y∈p.darts∧y ∉ flat F
 way:(L=[]∧x=d)∨∃ l,L=d :: l∧Trail (nextDart g turn) d l x
 mem:x∈p.darts
theorem Cur.start {g:Gr} {p:Pt} {turn:List (List Int)} {F:List Face} {d:Int} (hd:d∈p.darts):Cur g p turn F d [] d:=⟨by simp,by simp,Or.inl ⟨rfl,rfl⟩,hd⟩
theorem Cur.step {g:Gr} {p:Pt} {turn:List (List Int)} {F:List Face} {d x:Int} {L:List Int} (hp:PartOk g p) (ht:TurnsOk g p turn) (h:Cur g p turn F d L x) (h1:x ∉ flat F) (h2:x ∉ L):Cur g p turn F d (L++[x]) (nextDart g turn x):=by
 refine⟨?_,fun y hy=>?_,Or.inr ?_,next_mem hp ht h.mem⟩
 ·rw[List.nodup_append]
  exact⟨h.nodup,by simp,fun a ha b hb e=>by simp at hb;subst hb;subst e;exact h2 ha⟩
 ·rcases List.mem_append.1 hy with q | q
  ·exact h.sub y q
  rw[List.mem_singleton.1 q];exact⟨h.mem,h1⟩
 rcases h.way with ⟨rfl,rfl⟩ | ⟨l,rfl,ht⟩
 ·exact⟨[],rfl,rfl⟩
 exact⟨l++[x],rfl,Trail.append.2 ⟨ht,rfl⟩⟩
theorem trail_last {q:Int→Int} {z:Int}:∀ {l:List Int} {a:Int},Trail q a l z→∃ m y,a :: l=m++[y]∧q y=z
 | [],a,h=>⟨[],a,rfl,h⟩
 | b :: l,a,h=>by
  obtain⟨m,y,e,hy⟩:=trail_last h.2
  exact⟨a :: m,y,by rw[e];rfl,hy⟩
theorem trail_pred {q:Int→Int} {z:Int}:∀ {l:List Int} {a:Int},Trail q a l z→∀ x∈l,∃ m y r,a :: l=m++y :: x :: r∧q y=x
 | [],a,_,x,hx=>by simp at hx
 | b :: l,a,h,x,hx=>by
  rcases List.mem_cons.1 hx with rfl | hx
  ·exact⟨[],a,l,rfl,h.1⟩
  obtain⟨m,y,r,e,hy⟩:=trail_pred h.2 x hx
  exact⟨a :: m,y,r,by rw[e];rfl,hy⟩
theorem Cur.ring {g:Gr} {p:Pt} {turn:List (List Int)} {F:List Face} {pre:List Int} {d x:Int} {L:List Int} (hp:PartOk g p) (ht:TurnsOk g p turn) (hF:Trk g p turn F pre) (h:Cur g p turn F d L x) (hL:L≠[]) (hx:x∈flat F∨x∈L):∃ l,L=d :: l∧Ring (nextDart g turn) L:=by
 rcases h.way with ⟨rfl,-⟩ | ⟨l,rfl,hw⟩
 ·exact absurd rfl hL
 refine⟨l,rfl,?_⟩
 obtain⟨m,z,e,hz⟩:=trail_last hw
 have hzL:z∈d :: l:=by rw[e];simp
 have hzd:=h.sub z hzL
 rcases hx with q | q
 ·obtain⟨y,hy,hyx⟩:=hF.rings.pred (x:=x) q
  have:y=z:=next_inj hp ht (hF.sub y hy) hzd.1 (hyx.trans hz.symm)
  subst this
  exact absurd hy hzd.2
 rcases List.mem_cons.1 q with rfl | q
 ·exact hw
 obtain⟨m',y,r,e',hy⟩:=trail_pred hw x q
 have hyL:y∈d :: l:=by rw[e'];simp
 have:y=z:=next_inj hp ht (h.sub y hyL).1 hzd.1 (hy.trans hz.symm)
 subst this
 exfalso
 have hn:=h.nodup
 have e2:m'++y :: x :: r=m++[y]:=e'.symm.trans e
 have hlen:=congrArg List.length e2
 simp at hlen
 have g1:(m'++y :: x :: r)[m'.length]?=some y:=by simp
 rw[e] at hn
 rw[e2,List.getElem?_append_left (by omega)] at g1
 exact (List.nodup_append.1 hn).2.2 y (List.mem_of_getElem? g1) y (by simp) rfl
theorem Trk.add {g:Gr} {p:Pt} {turn:List (List Int)} {F:List Face} {pre:List Int} {d:Int} {L:List Int} (h:Trk g p turn F pre) (hn:L.Nodup) (hs:∀ y∈L,y∈p.darts∧y ∉ flat F) (hr:∃ l,L=d :: l∧Ring (nextDart g turn) L):Trk g p turn (F++[(d,L)]) (pre++[d]):=by
 obtain⟨l,e,hring⟩:=hr
 have hfl:=flat_snoc F (d,L)
 refine⟨⟨fun c hc=>?_,?_⟩,fun x hx=>?_,fun f hf=>?_,?_,fun f hf=>?_,fun x hx=>?_⟩
 ·rw[List.map_append,List.mem_append] at hc
  rcases hc with q | q
  ·exact h.rings.ring c q
  simp at q;rw[q];exact hring
 ·show (flat (F++[(d,L)])).Nodup
  rw[hfl,List.nodup_append]
  exact⟨h.rings.nodup,hn,fun a ha b hb q=>(hs b hb).2 (q ▸ ha)⟩
 ·rw[hfl,List.mem_append] at hx
  exact hx.elim (h.sub x) (fun q=>(hs x q).1)
 ·rcases List.mem_append.1 hf with q | q
  ·exact h.key f q
  rw[List.mem_singleton.1 q];exact⟨l,e⟩
 ·rw[List.map_append]
  exact h.keys.append (List.Sublist.refl _)
 ·rcases List.mem_append.1 hf with q | q
  ·obtain⟨a,b,e1,ha⟩:=h.least f q
   exact⟨a,b++[d],by rw[e1];simp,ha⟩
  rw[List.mem_singleton.1 q]
  exact⟨pre,[],rfl,fun y hy hm=>(hs y hy).2 (h.cover y hm)⟩
 rw[hfl,List.mem_append]
 rcases List.mem_append.1 hx with q | q
 ·exact Or.inl (h.cover x q)
 rw[List.mem_singleton.1 q,e];exact Or.inr (by simp)
def loneAt (turn:List (List Int)) (l:List Int):List Face:=(l.reverse.filter fun v=>(turnAt turn v).isEmpty).map fun v=>(-1 - v,[])
theorem loneAt_step (turn:List (List Int)) (v:Int) (l:List Int):loneAt turn (v :: l)=loneAt turn l++(if (turnAt turn v).isEmpty then [(-1 - v,[])] else []):=by
 unfold loneAt
 rw[List.reverse_cons,List.filter_append,List.map_append]
 congr 1
 cases hq:(turnAt turn v).isEmpty <;> simp[hq]
structure WalksOk (g:Gr) (p:Pt) (turn:List (List Int)) (W:List Face):Prop where
 faces:FacesOk g p turn W
 split:∃ F,W=loneAt turn p.v++F∧Trk g p turn F p.darts
theorem Trk.walks {g:Gr} {p:Pt} {turn:List (List Int)} {F:List Face} (hp:PartOk g p) (h:Trk g p turn F p.darts):WalksOk g p turn (loneAt turn p.v++F):=by
 have hl1:(loneAt turn p.v).filter (fun f=>!f.2.isEmpty)=[]:=by
  rw[List.filter_eq_nil_iff]
  intro f hf
  obtain⟨v,-,rfl⟩:=List.mem_map.1 hf
  simp
 have hl2:(loneAt turn p.v).filter (fun f=>f.2.isEmpty)=loneAt turn p.v:=by
  rw[List.filter_eq_self]
  intro f hf
  obtain⟨v,-,rfl⟩:=List.mem_map.1 hf
  simp
 have hne:∀ f∈F,f.2.isEmpty=false:=fun f hf=>by
  obtain⟨l,e⟩:=h.key f hf
  rw[e];rfl
 have hF1:F.filter (fun f=>!f.2.isEmpty)=F:=List.filter_eq_self.2 fun f hf=>by rw[hne f hf];rfl
 have hF2:F.filter (fun f=>f.2.isEmpty)=[]:=List.filter_eq_nil_iff.2 fun f hf=>by rw[hne f hf];simp
 refine⟨⟨?_,?_,fun f hf d l e=>?_,?_⟩,F,rfl,h⟩
 ·rw[List.filter_append,hl1,hF1];exact h.rings
 ·rw[List.filter_append,hl1,hF1]
  exact (List.perm_ext_iff_of_nodup h.rings.nodup (darts_nodup hp.en)).2 fun x=>⟨h.sub x,h.cover x⟩
 ·rcases List.mem_append.1 hf with q | q
  ·obtain⟨v,-,rfl⟩:=List.mem_map.1 q
   cases e
  obtain⟨l',e'⟩:=h.key f q
  rw[e'] at e
  cases e;rfl
 rw[List.filter_append,hl2,hF2,List.append_nil]
 unfold loneAt
 rw[List.map_map]
 exact ((List.reverse_perm p.v).filter _).map _
end Go.Proofs.YtkacjmoamgjfpaaGreat.Plain
namespace Go.Proofs.YtkacjmoamgjfpaaGreat
open Go.RowKit Go.Maps
theorem darts_any (rb:Nat) (w:World) :
  Calls Tryz.prog 140 #[.pointer (some ⟨rb,0,none⟩)] w fun e w'=>e=.returned (.func (.func 204) #[] #[.pointer (some ⟨w.heap.size,0,none⟩)])∧w'=w.alloc (.cells #[.pointer (some ⟨rb,0,none⟩)] 174):=by
 go_enter Tryz.func140,Tryz.ntmps140
 go_wp2
 go_ret
 exact⟨rfl,rfl⟩
def ItAt (W:World) (Bs rb:Nat) (vd:Value) (ds:List Int):Prop:=W.cell? ⟨Bs,0,none⟩=some (.pointer (some ⟨rb,0,none⟩))∧W.cell? ⟨rb,3,none⟩=some vd∧IntsAt W vd ds
theorem ItAt.chg {W W':World} {own:List Nat} {Bs rb:Nat} {vd:Value} {ds:List Int} (h:ItAt W Bs rb vd ds) (hc:Chg own W W') (h1:Bs ∉ own) (h2:rb ∉ own) (h3:∀ b n c,vd=.slice (some b) n c→b.block ∉ own):ItAt W' Bs rb vd ds :=
 ⟨hc.cell h.1 h1,hc.cell h.2.1 h2,h.2.2.chg hc h3⟩
def ItKeeps (Bs rb:Nat) (vd:Value) (ds:List Int) (A B:World):Prop:=A.heap.size≤B.heap.size∧(ItAt A Bs rb vd ds→ItAt B Bs rb vd ds)
section
attribute [local go_sem] Oper.semAt_some
set_option maxRecDepth 100000 in
set_option maxHeartbeats 2000000 in
theorem darts1_in (α:Type) (enc:α→Int) (n:Nat) (hn:1≤n) (l Bs rb:Nat) (vd:Value) (xs:List α) (hl:xs.length<4294967296) (J Jx:List α→World→Prop)
  (hY:∀ pre x W,J pre W→pre.length<xs.length→YieldAt Fence.wide (n - 1) Tryz.prog l #[.int .i64 (enc x)] W fun e W' =>
   (e=.returned (.bool true)∧J (pre++[x]) W'∧ItKeeps Bs rb vd (xs.map enc) W W')∨(e=.returned (.bool false)∧Jx (pre++[x]) W'))
  (W:World) (hI:ItAt W Bs rb vd (xs.map enc)) (h0:J [] W) :
  CallsIn Fence.wide n Tryz.prog 204 #[.func (.yield l) #[] #[],.pointer (some ⟨Bs,0,none⟩)] W fun e W'=>(∃ v,e=.returned v) ∧
   ((∃ ys,ys=xs∧J ys W')∨(∃ pre,(∃ k,k≤xs.length∧pre=xs.take k)∧Jx pre W')):=by
 have HIT:=lh hI
 obtain⟨hc1,hc2,hc3⟩:=hI
 obtain⟨ao,cap,rfl,-,-,hcc⟩:=hc3
 rw[List.length_map] at hcc hc2
 have HIT2:Hid (ItAt W Bs rb (.slice ao xs.length cap) (xs.map enc)):=by have:=HIT.out;rw[List.length_map] at this;exact lh this
 have hY2:Hid (∀ pre x W,J pre W→pre.length<xs.length→YieldAt Fence.wide (n - 1) Tryz.prog l #[.int .i64 (enc x)] W fun e W' =>
   (e=.returned (.bool true)∧J (pre++[x]) W'∧ItKeeps Bs rb (.slice ao xs.length cap) (xs.map enc) W W')∨(e=.returned (.bool false)∧Jx (pre++[x]) W')):=by
  have:=hY;rw[List.length_map] at this;exact lh this
 clear hcc hY HIT
 refine callsIn_of_wp Tryz.func204 rfl trivial ?_ rfl
 simp only[Tryz.ntmps204,List.size_toArray,List.length_cons,List.length_nil,Nat.reduceAdd,Nat.reduceSub,Array.replicate_succ,Array.replicate_zero,List.push_toArray,List.append_toArray,List.nil_append,List.cons_append]
 gi_wp2
 gi_loopw [12] (fun i wr=>∃ k:Nat,k≤xs.length∧i=.int .i64 k∧J (xs.take k) wr∧Hid (ItAt wr Bs rb (.slice ao xs.length cap) (xs.map enc))) (fun i _=>xs.length - (intOf i).toNat)
 case atStart=>exact⟨0,Nat.zero_le _,rfl,by simpa using h0,HIT2⟩
 case round =>
  obtain⟨k,hk,rfl,hJs,hit⟩:=hrel
  have HJ:=lh hJs
  by_cases hlt:k<xs.length
  ·obtain⟨x,hx⟩:∃ x,xs[k]?=some x:=⟨xs[k],List.getElem?_eq_getElem hlt⟩
   have HTK:=lh (show xs.take (k+1)=xs.take k++[x] by
    rw[List.take_succ_eq_append_getElem hlt]
    congr 1
    rw[List.getElem?_eq_getElem hlt] at hx
    simpa using hx)
   obtain⟨ao2,cap2,e,-,-,hcc⟩:=hit.out.2.2
   obtain⟨b,off,e2,hcell⟩:=hcc (by intro q;have:=congrArg List.length q;rw[List.length_map] at this;simp at this;subst this;simp at hlt)
   simp only[Value.slice.injEq] at e
   obtain⟨e3,-,-⟩:=e
   rw[e2] at e3
   subst e3
   have ck:=hcell k (by rw[List.length_map];exact hlt)
   have hxe:(xs.map enc).getD k 0=enc x:=by simp[List.getD,hx]
   rw[hxe] at ck
   obtain⟨fn,tmps,assign,body,hy,hR⟩:=hY2.out (xs.take k) x wr hJs (by rw[List.length_take];omega)
   clear hx hcell hcc hxe hJs
   generalize enc x=z at *
   gi_wp2
   refine hR.mono ?_
   rintro e W3 (⟨rfl,hJ3,hk3⟩ | ⟨rfl,hJx3⟩)
   ·have HJ3:=lh hJ3
    have HI3:=lh (hk3.2 hit.out)
    gi_wp2
    go_roundw
    case rel=>exact⟨k+1,by omega,by go_num,by rw[HTK.out];exact HJ3.out,HI3⟩
    case measure=>simp[intOf];omega
   have HJ3:=lh hJx3
   gi_wp2
   refine bodyPost_ret (results_none rfl _ _ _) rfl ?_
   exact⟨⟨_,rfl⟩,.inr ⟨_,⟨k+1,by omega,rfl⟩,by rw[HTK.out];exact HJ3.out⟩⟩
  have e:k=xs.length:=by omega
  subst e
  gi_wp2
  go_end0
  exact⟨⟨_,rfl⟩,.inl ⟨xs,rfl,by have:=HJ.out;rwa[List.take_length] at this⟩⟩
theorem darts_stops (α:Type) (enc:α→Int) (n:Nat) (hn:1≤n) (Bs rb:Nat) (vd:Value) (xs:List α) (hl:xs.length<4294967296) (w:World) (hI:ItAt w Bs rb vd (xs.map enc)) :
  SeqStopsK Fence.wide n Tryz.prog 204 #[.pointer (some ⟨Bs,0,none⟩)] (fun x:α=>#[Value.int .i64 (enc x)]) (ItKeeps Bs rb vd (xs.map enc)) (fun ys=>ys=xs) (fun pre=>∃ k,k≤xs.length∧pre=xs.take k) xs.length w:=fun l J Jx W hW _ _ hY h0 =>
 darts1_in α enc n hn l Bs rb vd xs hl J Jx hY W (by
  have hc:Chg [] w W:=Chg.of_below hW (Nat.le_refl _)
  exact hI.chg hc (by simp) (by simp) (by simp)) h0
end
end Go.Proofs.YtkacjmoamgjfpaaGreat
namespace Go.Proofs.YtkacjmoamgjfpaaGreat
open Go.RowKit Go.Maps
def faceCells (F:List Plain.Face):List Cell:=F.flatMap fun f=>[.num f.1,.row f.2]
theorem faceCells_snoc (F:List Plain.Face) (f:Plain.Face):faceCells (F++[f])=faceCells F++[.num f.1,.row f.2]:=by simp[faceCells]
theorem elemWalk:Elem 116 120 (.agg #[.int .i64 0,.slice none 0 0]) 2 32:=⟨Tryz.underlying116,by kernel_rfl,rfl,by decide,by decide⟩
structure OutW (B:Nat) (wr:World) (ob T:Nat) (F:List Plain.Face):Prop where
 ex:∃ ov xs,wr.heap[ob]?=some (.cells #[ov] 116 (0,0))∧Nest wr B 120 2 ov F.length xs (faceCells F)∧(∀ b,ov.ownBlock=some b→b<T)∧∀ k b,k<xs.length→(xs.getD k undef).ownBlock=some b→b<T
 lt:ob<T
theorem OutW.keep {B:Nat} {wr w':World} {ob T:Nat} {F:List Plain.Face} {own:List Nat} (h:OutW B wr ob T F) (hc:Chg own wr w') (ho:∀ j∈own,T≤j∨∀ cs t r,wr.heap[j]?≠some (.cells cs t r)):OutW B w' ob T F:=by
 obtain⟨⟨ov,xs,h1,h2,h3,h4⟩,h5⟩:=h
 refine⟨⟨ov,xs,hc.heap h1 (fun hm=>?_),h2.chg hc (fun b hb hm=>?_) (fun k b hk hb hm=>?_),h3,h4⟩,h5⟩
 ·rcases ho _ hm with q | q
  ·omega
  exact q _ _ _ h1
 ·rcases ho _ hm with q | q
  ·have:=h3 b hb;omega
  rcases h2.out.2 with ⟨rfl,_⟩ | ⟨g,c,cur,rfl,_,hg,_⟩
  ·simp[Value.ownBlock] at hb
  simp[Value.ownBlock] at hb;subst hb;exact q _ _ _ hg
 rcases ho _ hm with q | q
 ·have:=h4 k b hk hb;omega
 obtain⟨-,-,cs,r,hh⟩:=h2.kind hk hb
 exact q _ _ _ hh
theorem OutW.fresh {B:Nat} {wr w':World} {ob T:Nat} {F:List Plain.Face} (h:OutW B wr ob T F) (hc:Chg [] wr w'):OutW B w' ob T F:=h.keep hc (by simp)
theorem OutW.up {B:Nat} {wr:World} {ob T T':Nat} {F:List Plain.Face} (h:OutW B wr ob T F) (hT:T≤T'):OutW B wr ob T' F:=by
 obtain⟨⟨ov,xs,h1,h2,h3,h4⟩,h5⟩:=h
 exact⟨⟨ov,xs,h1,h2,fun b hb=>by have:=h3 b hb;omega,fun k b hk hb=>by have:=h4 k b hk hb;omega⟩,by omega⟩
theorem OutW.push {B:Nat} {wr:World} {ob T:Nat} {F:List Plain.Face} (h:OutW B wr ob T F) (hB:B≤wr.heap.size) (hob:B≤ob) (k:Int) {v:Value} {l:List Int} (hv:RowAt wr B v l) (hT:∀ j∈foot v,T≤j) (hn:F.length<1000000000) :
  ∃ ao c g cap w2,wr.cell? ⟨ob,0,none⟩=some (.slice ao F.length c) ∧
   (Builtin.append_ #[116,116] 116 #[.slice ao F.length c,.slice (some ⟨wr.heap.size,0,none⟩) 1 1]).run Tryz.prog (wr.alloc (.cells #[.int .i64 k,v] 120))=.ok (.slice (some ⟨g,0,none⟩) (F.length+1) cap) w2 ∧
   w2.cell? ⟨ob,0,none⟩=some (.slice ao F.length c)∧w2.frozen? ⟨ob,0,none⟩=false ∧
   OutW B (w2.setCell ⟨ob,0,none⟩ (.slice (some ⟨g,0,none⟩) (F.length+1) cap)) ob w2.heap.size (F++[(k,l)]) ∧
   ∃ own,Chg own wr (w2.setCell ⟨ob,0,none⟩ (.slice (some ⟨g,0,none⟩) (F.length+1) cap))∧∀ j∈own,j=ob∨(B≤j∧∃ cs r,wr.heap[j]?=some (.cells cs 120 r)):=by
 obtain⟨⟨ov,xs,h1,h2,h3,h4⟩,h5⟩:=h
 obtain⟨ao,c,rfl⟩:=h2.shape
 obtain⟨g,cap,w2,hr,r2,r3,r4⟩:=run_app elemWalk h2.out hB (cs:=#[.int .i64 k,v]) rfl (by
  intro u hu
  simp at hu
  rcases hu with rfl | rfl
  ·rfl
  obtain⟨a',c',e⟩:=hv.shape;rw[e];rfl) (by omega) (Or.inl rfl) 116
 have hno:(Value.slice ao F.length c).ownBlock≠some ob:=fun e=>owns_other h2.out h1 (by decide) e
 have hb2:=r3.heap h1 (by simpa using hno)
 have hsz:=r3.size
 have hxl:xs.length=F.length*2:=h2.cells
 have hnest:=h2.add (w':=w2) (g:=g) (cap:=cap) (us:=[.int .i64 k,v]) (ds:=[.num k,.row l]) (by decide) rfl rfl (fun i d hi=>by
   rcases i with _ | _ | i
   ·simp at hi;subst hi;rfl
   ·simp at hi;subst hi;exact hv
   ·simp at hi) (fun i j hi hj hne=>by
   simp at hi hj
   rcases i with _ | _ | i
   ·exact Or.inl rfl
   ·rcases j with _ | _ | j
    ·cases hq:([Value.int .i64 k,v].getD 1 undef).ownBlock with
     | none=>exact Or.inl rfl
     | some b=>exact Or.inr (by simp[Value.ownBlock])
    ·omega
    omega
   ·omega) (fun i j b hi hj hb e=>by
   simp at hj
   have:=h4 i b hi hb
   rcases j with _ | _ | j
   ·simp[Value.ownBlock] at e
   ·have e':v.ownBlock=some b:=e
    have:=hT b (by rw[hv.foot,e'];simp)
    omega
   omega) r2 r3
 have hset:Chg [ob] w2 (w2.setCell ⟨ob,0,none⟩ (.slice (some ⟨g,0,none⟩) (F.length+1) cap)):=(Chg.refl _ _).setCell (Or.inl (by simp)) _
 have hlen:(F++[(k,l)]).length=F.length+1:=by simp
 have hout:OutW B (w2.setCell ⟨ob,0,none⟩ (.slice (some ⟨g,0,none⟩) (F.length+1) cap)) ob w2.heap.size (F++[(k,l)]):=by
  refine⟨⟨_,xs++[.int .i64 k,v],heap_setCell_same hb2 0 _,?_,?_,?_⟩,lt_of_block hb2⟩
  ·rw[faceCells_snoc,hlen]
   exact hnest.other hset (fun j hj cs t r hh=>by
    simp at hj;subst hj
    rw[hb2] at hh
    simp at hh
    rw[←hh.2.1]
    decide)
  ·intro b hb
   exact (hnest.out.lt b hb).2
  intro i b hi hb
  exact (hnest.kind hi hb).2.1
 refine⟨ao,c,g,cap,w2,(cell_of_row _ _ 0 _ _ _ h1).trans rfl,hr,(cell_of_row _ _ 0 _ _ _ hb2).trans rfl,free_at hb2 0,hout,ob :: (Value.slice ao F.length c).ownBlock.toList,(r3.mono (fun j hj=>Or.inl (by simp[hj]))).trans hset (fun j hj=>Or.inl (by simp at hj;simp[hj])),fun j hj=>?_⟩
 rcases List.mem_cons.1 hj with q | q
 ·exact Or.inl q
 refine Or.inr ⟨(h2.out.lt j (by simpa using q)).1,?_⟩
 rcases h2.out.2 with ⟨e,_⟩ | ⟨g',c',cur,e,_,hg,_⟩
 ·rw[e] at q;simp[Value.ownBlock] at q
 rw[e] at q;simp[Value.ownBlock] at q;subst q;exact⟨_,_,hg⟩
end Go.Proofs.YtkacjmoamgjfpaaGreat
namespace Go.Proofs.YtkacjmoamgjfpaaGreat
open Go.RowKit Go.Maps
section
variable {ops : Array Oper} {rest : List Oper} {o : Oper} {a : Act} {Q : Exit → Act → World → Prop} {w w' : World} {F : Fence} {nF : Nat}
theorem wl_apprun (hg:o.guard=none) (s x:Operand) (t:TypeId) (ho:o.op=.call { callee:=.builtin .append,args:=#[s,x],argTypes:=#[t,t] }) {v u r:Value} (hs:a.eval s=v) (hx:a.eval x=u)
  (hr:(Builtin.append_ #[t,t] o.type #[v,u]).run Tryz.prog w=.ok r w') (hK:wpList Tryz.prog ops Q rest (a.put o.dst r) w'):wpList Tryz.prog ops Q (o :: rest) a w:=by
 refine wpList_plain hg fun K hK'=>?_
 unfold Oper.wp execOp
 simp only[ho,resolve,invoke,builtin,Sem.run_bind,Sem.run_pure,Result.andThen_ok,List.map_toArray,List.map_cons,List.map_nil,hs,hx,hr]
 exact hK' _ _ hK
theorem wi_apprun (hg:o.guard=none) (s x:Operand) (t:TypeId) (ho:o.op=.call { callee:=.builtin .append,args:=#[s,x],argTypes:=#[t,t] }) {v u r:Value} (hs:a.eval s=v) (hx:a.eval x=u)
  (hr:(Builtin.append_ #[t,t] o.type #[v,u]).run Tryz.prog w=.ok r w') (hK:wpListIn F nF Tryz.prog ops Q rest (a.put o.dst r) w'):wpListIn F nF Tryz.prog ops Q (o :: rest) a w:=by
 refine wpListIn_plain hg fun K hK'=>?_
 unfold Oper.wpIn
 refine⟨by simp[Oper.about,ho,resolve,Target.leads,Sem.run_pure],?_⟩
 rw[Oper.semAt_plain F _ _ (by rw[ho];intro c hc';cases hc')]
 unfold execOp
 simp only[ho,resolve,invoke,builtin,Sem.run_bind,Sem.run_pure,Result.andThen_ok,List.map_toArray,List.map_cons,List.map_nil,hs,hx,hr]
 exact hK' _ _ hK
variable (w)
theorem wi_look_any (hg:o.guard=none) (m x:Operand) (hop:o.op=Op.lookup 93 m x true) {b n:Nat} {f:Int→Option Int} (h:IMap w b n f) (hm:a.eval m=.map (some b))
  {k:Int} (hk:I64 k) (hx:a.eval x=.int .i64 k) {v:Int} {t:Bool} (hv:Hid ((f k).getD 0=v)) (ht:Hid ((f k).isSome=t)) (hK:wpListIn F nF Tryz.prog ops Q rest (a.put o.dst (.tuple #[.int .i64 v,.bool t])) w):wpListIn F nF Tryz.prog ops Q (o :: rest) a w:=by
 obtain⟨D,hown,hD⟩:=h
 refine wpListIn_lookup_own_ok_int w hg m x _ hop _ _ .i64 keyedInt Tryz.underlying93 Tryz.underlying3 (zeroInt _) b n D hm hown _ _ hx (keyOf_int_mk Tryz.underlying3 hk) (fun c hat _=>?_)
 obtain⟨h1,h2⟩:=hD k hk
 rw[h2,hv.out] at hat
 cases hat
 rw[h1,ht.out]
 exact hK
theorem wi_store (hg:o.guard=none) (m x u:Operand) (hop:o.op=Op.mapUpdate 93 m x u) {b n:Nat} {f:Int→Option Int} (h:IMap w b n f) (hn:n<maxLen) (hm:a.eval m=.map (some b))
  {k v:Int} (hk:I64 k) (hv:I64 v) (hx:a.eval x=.int .i64 k) (hu:a.eval u=.int .i64 v)
  (hK:∀ w',IMap w' b (n+1) (fun y=>if y=k then some v else f y)→w.grownBy w' (some b)→wpListIn F nF Tryz.prog ops Q rest (a.put o.dst undef) w'):wpListIn F nF Tryz.prog ops Q (o :: rest) a w:=by
 obtain⟨D,hown,hD⟩:=h
 refine wpListIn_mapUpdate_own w hg m x u _ hop _ _ keyedInt Tryz.underlying93 _ b n D hm hown hn _ _ _ hx hu (keyOf_int_mk Tryz.underlying3 hk) _ [] (plainElem_int Tryz.underlying3 hv) (fun w' h1 h2=>hK w' ⟨_,h1,fun y hy=>?_⟩ h2)
 by_cases e:y=k
 ·subst e
  have hkl:=keyedInt.key (keyOf_int_mk Tryz.underlying3 hk)
  rw[has_put_same hown.isMap hkl,atKey_put_same hown.isMap hkl]
  simp
 rw[has_put_other (litNe e),atKey_put_other (litNe e)]
 simp only[if_neg e]
 exact hD y hy
theorem wi_delete (hg:o.guard=none) (m x:Operand) (hop:o.op=Op.call { callee:=Callee.builtin Builtin.delete,args:=#[m,x],argTypes:=#[93,3] }) {b n:Nat} {f:Int→Option Int} (h:IMap w b n f) (hm:a.eval m=.map (some b))
  {k:Int} (hk:I64 k) (hx:a.eval x=.int .i64 k)
  (hK:∀ w',IMap w' b n (fun y=>if y=k then none else f y)→w.grownBy w' (some b)→wpListIn F nF Tryz.prog ops Q rest (a.put o.dst (.tuple #[])) w'):wpListIn F nF Tryz.prog ops Q (o :: rest) a w:=by
 obtain⟨D,hown,hD⟩:=h
 refine wpListIn_delete_own w hg m x _ _ hop _ keyedInt Tryz.underlying93 _ b n D hm hown _ _ hx (keyOf_int_mk Tryz.underlying3 hk) (fun w' h1 h2=>hK w' ⟨_,h1,fun y hy=>?_⟩ h2.grown)
 by_cases e:y=k
 ·subst e
  rw[has_del_same,atKey_del_same]
  simp
 rw[has_del_other (litNe e),atKey_del_other (litNe e)]
 simp only[if_neg e]
 exact hD y hy
end
theorem ownFrom_chg {β:Type} {B:Nat} {I:β→World→Prop} (h:∀ s W W' own,I s W→Chg own W W'→(∀ j∈own,B≤j∧∀ cs t r,W.heap[j]?≠some (.cells cs t r))→I s W'):OwnFrom B I:=by
 intro s W W' row hs hg hr
 refine h s W W' row.toList hs ((Chg.refl _ _).grown hg (fun j hj=>Or.inl (by rw[hj];simp))) (fun j hj=>?_)
 obtain⟨h1,o,ho,hc⟩:=hr j (by simpa using hj)
 refine⟨h1,fun cs t r e=>?_⟩
 rw[ho] at e
 cases e
 simp[Obj.isCells] at hc
theorem IntsAt.low {w:World} {v:Value} {l:List Int} (h:IntsAt w v l) (hl:l≠[]):∃ b off n c,v=.slice (some ⟨b,off,none⟩) n c∧b<w.heap.size:=by
 obtain⟨ao,cap,rfl,-,-,h3⟩:=h
 obtain⟨b,off,rfl,h4⟩:=h3 hl
 exact⟨b,off,_,_,rfl,World.block_lt_of_cell? _ _ (h4 0 (List.length_pos_iff.2 hl))⟩
theorem itKeeps_chg {w2 A B:World} {own:List Nat} {Bs rb:Nat} {vd:Value} {ds:List Int} (hd:IntsAt w2 vd ds) (hrb:rb<w2.heap.size) (hc:Chg own A B) (ho:∀ j∈own,w2.heap.size≤j∧j≠Bs):ItKeeps Bs rb vd ds A B:=by
 refine⟨hc.size,fun h=>?_⟩
 obtain⟨h1,h2,h3⟩:=h
 refine⟨hc.cell h1 (fun e=>(ho _ e).2 rfl),hc.cell h2 (fun e=>by have:=(ho _ e).1;simp at this;omega),?_⟩
 by_cases hl:ds=[]
 ·subst hl
  obtain⟨ao,cap,rfl,-,-,-⟩:=h3
  exact⟨ao,cap,rfl,by simp,by simp,by simp⟩
 obtain⟨b,off,n,c,e,hb⟩:=hd.low hl
 refine h3.chg hc (fun b' n' c' e' hm=>?_)
 rw[e] at e'
 cases e'
 have:=(ho _ hm).1
 simp at this
 omega
theorem itKeeps_put {W:World} {l Bs rb:Nat} {vd:Value} {ds:List Int} {o o':Obj} (ho:W.heap[l]?=some o) (hc:o.isCells=false):ItKeeps Bs rb vd ds W (W.putObj l o'):=by
 have hch:Chg [l] W (W.putObj l o'):=(Chg.refl _ _).grown (grownBy_putObj' W l o') (fun j hj=>by cases hj;exact Or.inl (by simp))
 have hne:∀ {b i:Nat} {v:Value},W.cell? ⟨b,i,none⟩=some v→b≠l:=fun h e=>by
  subst e
  unfold World.cell? at h
  simp only[ho] at h
  cases o <;> simp[Obj.isCells] at hc h
 refine⟨hch.size,fun h=>?_⟩
 obtain⟨h1,h2,h3⟩:=h
 refine⟨hch.cell h1 (by simpa using hne h1),hch.cell h2 (by simpa using hne h2),?_⟩
 obtain⟨ao,cap,rfl,k1,k2,k3⟩:=h3
 refine⟨ao,cap,rfl,k1,k2,fun hl=>?_⟩
 obtain⟨b,off,rfl,k4⟩:=k3 hl
 exact⟨b,off,rfl,fun i hi=>hch.cell (k4 i hi) (by simpa using hne (k4 i hi))⟩
theorem itKeeps_trans {Bs rb:Nat} {vd:Value} {ds:List Int} {A B C:World} (h:ItKeeps Bs rb vd ds A B) (k:ItKeeps Bs rb vd ds B C):ItKeeps Bs rb vd ds A C:=⟨Nat.le_trans h.1 k.1,fun x=>k.2 (h.2 x)⟩
namespace Plain
theorem dart_small {g:Gr} {p:Pt} (h:p.err g=0) {x:Int} (hx:x∈p.darts):0≤x∧x<2048:=by
 rw[mem_darts] at hx
 obtain⟨i,hi,e⟩:=mem_getD hx
 have h1:=rises_at (Pt.err_ok h).2.2.1 hi
 have h2:=Gr.err_ok (Pt.err_ok h).1
 omega
end Plain
end Go.Proofs.YtkacjmoamgjfpaaGreat
