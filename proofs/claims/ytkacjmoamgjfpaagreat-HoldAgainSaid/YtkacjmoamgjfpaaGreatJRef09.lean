/- law 09's small; the document's And: contracts. Conditions: a graph, parts, a plan, lists that lie in memory and read so. -/
import Derived.Test.YtkacjmoamgjfpaaGreatJRestS
namespace Go.Proofs.YtkacjmoamgjfpaaGreat
open Go.RowKit Go.Maps
namespace Plain
def andOf (b a:List Int):List Int:=a.filter fun x=>decide (x∈b)
end Plain
namespace Plain
theorem lst_min (l:List Int):∀ k,∀ i,i<k→l.getD (lst l k) 0≤l.getD i 0
 | 0,i,hi=>by omega
 | k+1,i,hi=>by
  have ih:=lst_min l k
  unfold lst
  split
  ·rename_i h
   by_cases e:i=k
   ·rw[e];exact Int.le_refl _
   have:=ih i (by omega);omega
  rename_i h
  by_cases e:i=k
  ·rw[e];omega
  exact ih i (by omega)
theorem restErr_is {g:Gr} {p q:Pt} {turn same:List (List Int)} (h:restErr g p q turn same=0):planErr g p turn same=0∧q.err g=0∧(∀ v∈q.v,v∈p.v)∧∀ e∈q.e,e∈p.e:=by
 unfold restErr at h
 split at h
 ·rename_i hz;exact absurd h hz
 rename_i hz
 split at h
 ·rename_i hc
  exact⟨Classical.byContradiction hz,hc.1,subB_iff.1 hc.2.1,subB_iff.1 hc.2.2⟩
 cases h
theorem small4_is {g:Gr} {p:Pt} (h:small4 g p=true):g.e.length≤60∧p.v.length≤60∧p.e.length≤60:=by
 unfold small4 at h
 simp only[Bool.and_eq_true] at h
 exact⟨of_decide_eq_true h.1.1.1,of_decide_eq_true h.1.1.2,of_decide_eq_true h.1.2⟩
theorem small8_four {g:Gr} {p:Pt} {turn same:List (List Int)} (h:small8 g p turn same=true):small4 g p=true∧∀ i,(turn.getD i []).length≤200:=by
 unfold small8 small6 at h
 simp only[Bool.and_eq_true] at h
 exact⟨h.1.1.1.1,getD_le (all_le h.1.1.2)⟩
theorem restTurn_row (E:List Int) (turn:List (List Int)) (i:Nat):((restTurn E turn).getD i []).length≤(turn.getD i []).length:=by
 unfold restTurn List.getD
 rw[List.getElem?_map]
 cases turn[i]? with
 | none=>simp
 | some l=>exact Nat.le_trans (Nat.le_of_eq (first_perm _).length_eq) (List.length_filter_le _ _)
end Plain
end Go.Proofs.YtkacjmoamgjfpaaGreat
namespace Go.Proofs.YtkacjmoamgjfpaaGreat
open Go
inductive Wy where
 | done:Wy
 | nil:Wy
 | then_:Nat→Wy→Wy
 | alt:Nat→Wy→Wy→Wy
def Wy.size:Wy→Nat
 | done=>0
 | nil=>0
 | then_ _ r=>r.size+1
 | alt _ r m=>max (r.size+1) m.size
def Wy.line:List Nat→Wy→Wy
 | [],r=>r
 | i :: l,r=>.then_ i (Wy.line l r)
def Wy.heads:Wy→List Nat
 | alt i _ m=>i :: m.heads
 | _=>[]
section
variable {P : Program} {ops : Array Oper} {Q : Exit → Act → World → Prop} {md : Region.Mode} {S : World → Prop} {R : List Nat}
def Wy.inside (n:Nat):Wy→Bool
 | done=>true
 | nil=>true
 | then_ i r=>decide (i<n)&&r.inside n
 | alt i r m=>decide (i<n)&&r.inside n&&m.inside n
def wyChk (md:Region.Mode) (ops:Array Oper) (R:List Nat):Bool→Wy→Array Bool→Bool
 | b,.done,listed=>!b&&(Region.ready md ops listed).isEmpty
 | b,.nil,_=>b
 | b,.then_ i r,listed=>!b&&(if R.contains i then (Region.ready md ops listed).contains i&&Region.free md ops listed i else Region.ready md ops listed==[i])&&wyChk md ops R false r (listed.setIfInBounds i true)
 | b,.alt i r m,listed=>!R.contains i&&(Region.ready md ops listed).contains i&&(b || Region.ready md ops listed==i :: m.heads)&&wyChk md ops R false r (listed.setIfInBounds i true)&&wyChk md ops R true m listed
def Alts (P:Program) (md:Region.Mode) (ops:Array Oper) (Q:Exit→Act→World→Prop) (S:World→Prop) (R:List Nat):Wy→Act→World→Prop
 | .done,a,w=>Q .normal a w
 | .nil,_,_=>True
 | .then_ i r,a,w =>
  if R.contains i then ∃ o,ops[i]?=some o∧∃ v,YieldsIf P ops S o v a∧S w∧(∀ c a w,Q (.panic c) (a.put o.dst v) w→Q (.panic c) a w)∧Alts P md ops Q S R r (a.put o.dst v) w
  else wpOp P ops Q i (fun a' w'=>(needs md ops R i=true→S w')∧Alts P md ops Q S R r a' w') a w
 | .alt i r m,a,w =>
  wpOp P ops Q i (fun a' w'=>(needs md ops R i=true→S w')∧Alts P md ops Q S R r a' w') a w∧Alts P md ops Q S R m a w
theorem alts_sound (hs:Region.noSelect ops=true):∀ (way:Wy) (b:Bool) (listed:Array Bool) (a:Act) (w:World) (fuel:Nat),way.size≤fuel→way.inside ops.size=true→wyChk md ops R b way listed=true→Down md ops listed →
  Alts P md ops Q S R way a w→(b=false→wpAnyN P md ops Q S (needs md ops R) fuel listed a w) ∧
   (∀ n,fuel=n+1→∀ k∈way.heads,wpOp P ops Q k (fun a' w'=>(needs md ops R k=true→S w')∧wpAnyN P md ops Q S (needs md ops R) n (listed.setIfInBounds k true) a' w') a w)
 | .done,b,_,_,_,0,_,_,hc,_,h=>⟨fun _=>⟨by have:=hc;simp only[wyChk,Bool.and_eq_true] at this;simpa using this.2,h⟩,fun _ _ k hk=>by simp[Wy.heads] at hk⟩
 | .done,b,_,_,_,n+1,_,_,hc,_,h=>⟨fun _=>⟨fun _=>h,by have:=hc;simp only[wyChk,Bool.and_eq_true] at this;rw[show Region.ready md ops _=[] by simpa using this.2];simp⟩,fun _ _ k hk=>by simp[Wy.heads] at hk⟩
 | .nil,b,_,_,_,fuel,_,_,hc,_,_=>⟨fun hb=>by rw[hb] at hc;simp[wyChk] at hc,fun _ _ k hk=>by simp[Wy.heads] at hk⟩
 | .then_ i rest,b,listed,a,w,0,hl,_,_,_,_=>by simp[Wy.size] at hl
 | .alt i r m,b,listed,a,w,0,hl,_,_,_,_=>by simp only[Wy.size] at hl;omega
 | .then_ i rest,b,listed,a,w,fuel+1,hl,hlt,hc,hdn,h=>by
  refine⟨fun hb=>?_,fun _ _ k hk=>by simp[Wy.heads] at hk⟩
  subst hb
  simp only[Wy.size,Nat.add_le_add_iff_right] at hl
  simp only[Wy.inside,Bool.and_eq_true,decide_eq_true_eq] at hlt
  unfold wyChk at hc
  simp only[Bool.not_false,Bool.true_and] at hc
  rw[Bool.and_eq_true] at hc
  unfold Alts at h
  by_cases hR:R.contains i=true
  ·rw[if_pos hR] at h
   rw[if_pos hR,Bool.and_eq_true] at hc
   obtain⟨o,ho,v,hy,hS,hQ,h⟩:=h
   exact wpAnyN_first ho (Region.noSelect_spec hs) hQ (fun j hne hno=>needs_of (by simpa using hR) hne hno) fuel listed a w hdn (Region.free_spec ho hc.1.2) (by simpa using hc.1.1) hy hS
    ((alts_sound hs rest false _ _ _ fuel hl hlt.2 hc.2 (down_set hdn (by simpa using hc.1.1)) h).1 rfl)
  rw[if_neg hR] at h hc
  have hr:Region.ready md ops listed=[i]:=by simpa using hc.1
  refine⟨fun h0=>(by rw[hr] at h0;cases h0),fun j hj=>?_⟩
  rw[hr] at hj
  obtain rfl:j=i:=by simpa using hj
  exact wpOp_mono (fun a' w' h'=>⟨h'.1,(alts_sound hs rest false _ a' w' fuel hl hlt.2 hc.2 (down_set hdn (by rw[hr];simp)) h'.2).1 rfl⟩) h
 | .alt i r m,b,listed,a,w,fuel+1,hl,hlt,hc,hdn,h=>by
  have hl1:r.size≤fuel:=by simp only[Wy.size] at hl;omega
  have hl2:m.size≤fuel+1:=by simp only[Wy.size] at hl;omega
  simp only[Wy.inside,Bool.and_eq_true,decide_eq_true_eq] at hlt
  unfold wyChk at hc
  simp only[Bool.and_eq_true] at hc
  obtain⟨⟨⟨⟨-,hin⟩,hr⟩,hc1⟩,hc2⟩:=hc
  unfold Alts at h
  have hall:∀ n,fuel+1=n+1→∀ k∈(Wy.alt i r m).heads,wpOp P ops Q k (fun a' w'=>(needs md ops R k=true→S w')∧wpAnyN P md ops Q S (needs md ops R) n (listed.setIfInBounds k true) a' w') a w:=by
   intro n hn k hk
   obtain rfl:fuel=n:=by omega
   rcases List.mem_cons.1 hk with e | hk
   ·subst e
    exact wpOp_mono (fun a' w' h'=>⟨h'.1,(alts_sound hs r false _ a' w' fuel hl1 hlt.1.2 hc1 (down_set hdn (by simpa using hin)) h'.2).1 rfl⟩) h.1
   exact (alts_sound hs m true listed a w (fuel+1) hl2 hlt.2 hc2 hdn h.2).2 fuel rfl k hk
  refine⟨fun hb=>?_,hall⟩
  subst hb
  have hr:Region.ready md ops listed=(Wy.alt i r m).heads:=by simpa[Wy.heads] using hr
  refine⟨fun h0=>(by rw[hr] at h0;simp[Wy.heads] at h0),fun k hk=>?_⟩
  rw[hr] at hk
  exact hall fuel rfl k hk
theorem wp_region_alts {id:Nat} {a:Act} {w:World} (S:World→Prop) (R:List Nat) (way:Wy) (hm:P.follows .mixedOrders=true)
  (hc:(Region.noSelect ops&&decide (way.size≤ops.size)&&way.inside ops.size&&wyChk .any ops R false way (Array.replicate ops.size false))=true)
  (h:Alts P .any ops Q S R way a w.drew):(Code.region id ops true).wp P Q a w:=by
 simp only[Bool.and_eq_true,decide_eq_true_eq] at hc
 exact wp_region_any hm (wpAnyN_any _ _ _ _ ((alts_sound hc.1.1.1 way false _ a _ _ hc.1.1.2 hc.1.2 hc.2 (fun j _ _ hj=>by simp[Array.getElem?_replicate] at hj;split at hj <;> simp_all) h).1 rfl))
theorem alts_read {i:Nat} {rest:Wy} {a:Act} {w:World} {o:Oper} {v:Value} (ho:ops[i]?=some o) (hR:R.contains i=true) (hw:Region.wanted o (yielded ops a.tmps)=true)
  (hQ:∀ c a w,Q (.panic c) (a.put o.dst v) w→Q (.panic c) a w) (hS:S w) (hv:∀ w,S w→(execOp a.eval o).run P w=.ok (.value v) w) (h:Alts P md ops Q S R rest (a.put o.dst v) w):Alts P md ops Q S R (.then_ i rest) a w:=by
 unfold Alts
 rw[if_pos hR]
 exact⟨o,ho,v,Or.inl ⟨hw,hv⟩,hS,hQ,h⟩
theorem alts_off {i:Nat} {rest:Wy} {a:Act} {w:World} {o:Oper} (ho:ops[i]?=some o) (hR:R.contains i=true) (hw:Region.wanted o (yielded ops a.tmps)=false)
  (hQ:∀ c a w,Q (.panic c) (a.put o.dst undef) w→Q (.panic c) a w) (hS:S w) (h:Alts P md ops Q S R rest (a.put o.dst undef) w):Alts P md ops Q S R (.then_ i rest) a w:=by
 unfold Alts
 rw[if_pos hR]
 exact⟨o,ho,undef,Or.inr ⟨hw,rfl⟩,hS,hQ,h⟩
theorem alts_skip {i:Nat} {rest:Wy} {a:Act} {w:World} {o:Oper} (ho:ops[i]?=some o) (hR:R.contains i=false) (hw:Region.wanted o (yielded ops a.tmps)=false)
  (hS:S w) (h:Alts P md ops Q S R rest (a.put o.dst undef) w):Alts P md ops Q S R (.then_ i rest) a w:=by
 unfold Alts
 rw[if_neg (by simp only[hR];decide)]
 unfold wpOp
 simp only[ho,hw]
 exact⟨fun _=>hS,h⟩
theorem alts_op {i:Nat} {rest:Wy} {a:Act} {w:World} {o:Oper} (ho:ops[i]?=some o) (hR:R.contains i=false) (hw:Region.wanted o (yielded ops a.tmps)=true)
  (h:∀ K:Act→World→Prop,Shut (∀ a w,(needs md ops R i=true→S w)→Alts P md ops Q S R rest a w→K a w)→Oper.wp P o a w K Q):Alts P md ops Q S R (.then_ i rest) a w:=by
 unfold Alts
 rw[if_neg (by simp only[hR];decide)]
 unfold wpOp
 simp only[ho,hw,if_true]
 exact Or.inl (h _ (fun a w hS hr=>⟨hS,hr⟩))
theorem alts_alt {i:Nat} {r m:Wy} {a:Act} {w:World} (hi:R.contains i=false) (h1:Alts P md ops Q S R (.then_ i r) a w) (h2:Alts P md ops Q S R m a w):Alts P md ops Q S R (.alt i r m) a w:=by
 unfold Alts at h1 ⊢
 rw[if_neg (by simp only[hi];decide)] at h1
 exact⟨h1,h2⟩
theorem alts_nil {a:Act} {w:World}:Alts P md ops Q S R .nil a w:=by unfold Alts;trivial
theorem alts_done {a:Act} {w:World} (h:Q .normal a w):Alts P md ops Q S R .done a w:=h
end
end Go.Proofs.YtkacjmoamgjfpaaGreat
namespace Go.Proofs.YtkacjmoamgjfpaaGreat
open Go.RowKit Go.Maps
namespace Plain
end Plain
end Go.Proofs.YtkacjmoamgjfpaaGreat
