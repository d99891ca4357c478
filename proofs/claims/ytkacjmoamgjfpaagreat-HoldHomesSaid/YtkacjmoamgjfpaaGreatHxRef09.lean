/- law 09's small; the document's And: contracts. Conditions: a graph, parts, a plan, lists that lie in memory and read so. -/
import Derived.Test.YtkacjmoamgjfpaaGreatHxRestS
namespace Go.Proofs.YtkacjmoamgjfpaaGreat
open Go.RowKit Go.Maps
namespace Plain
def andOf (b a:List Int):List Int:=a.filter fun x=>decide (x∈b)
end Plain
namespace Plain
theorem lst_min (l:List Int):∀ k,∀ i,i<k→l.getD (lst l k) 0≤l.getD i 0
 | 0,i,hi=>by omega
 | k+1,i,hi=>by
  have ih:=lst_min l k
  unfold lst
  split
  ·rename_i h
   by_cases e:i=k
   ·rw[e];exact Int.le_refl _
   have:=ih i (by omega);omega
  rename_i h
  by_cases e:i=k
  ·rw[e];omega
  exact ih i (by omega)
theorem lst_zero {l:List Int} (h:∀ i,i<l.length→l.getD 0 0≤l.getD i 0):∀ k,k≤l.length→lst l k=0
 | 0,_=>rfl
 | k+1,hk=>by
  have ih:=lst_zero h k (by omega)
  have:=h k (by omega)
  unfold lst
  rw[ih,if_neg (by omega)]
theorem first_begun {l:List Int} (h:∀ k,k<l.length→l.getD 0 0≤l.getD k 0):first l=l:=by
 unfold first
 rw[lst_zero h _ (Nat.le_refl _)]
 simp
theorem first_first (l:List Int):first (first l)=first l:=by
 refine first_begun fun k hk=>?_
 have hm:(first l).getD k 0∈l:=(first_perm l).mem_iff.1 (getD_mem hk)
 obtain⟨i,hi,e⟩:=mem_getD hm
 have h0:0<l.length:=by omega
 have hl:=lst_lt h0 l.length (Nat.le_refl _)
 have e0:(first l).getD 0 0=l.getD (lst l l.length) 0:=by
  unfold first
  have hd:0<l.length - lst l l.length:=by omega
  simp[List.getD,List.getElem?_append,hl,hd]
 rw[e0,←e]
 exact lst_min l l.length i hi
theorem restErr_is {g:Gr} {p q:Pt} {turn same:List (List Int)} (h:restErr g p q turn same=0):planErr g p turn same=0∧q.err g=0∧(∀ v∈q.v,v∈p.v)∧∀ e∈q.e,e∈p.e:=by
 unfold restErr at h
 split at h
 ·rename_i hz;exact absurd h hz
 rename_i hz
 split at h
 ·rename_i hc
  exact⟨Classical.byContradiction hz,hc.1,subB_iff.1 hc.2.1,subB_iff.1 hc.2.2⟩
 cases h
theorem small4_is {g:Gr} {p:Pt} (h:small4 g p=true):g.e.length≤60∧p.v.length≤60∧p.e.length≤60:=by
 unfold small4 at h
 simp only[Bool.and_eq_true] at h
 exact⟨of_decide_eq_true h.1.1.1,of_decide_eq_true h.1.1.2,of_decide_eq_true h.1.2⟩
theorem small8_four {g:Gr} {p:Pt} {turn same:List (List Int)} (h:small8 g p turn same=true):small4 g p=true∧∀ i,(turn.getD i []).length≤200:=by
 unfold small8 small6 at h
 simp only[Bool.and_eq_true] at h
 exact⟨h.1.1.1.1,getD_le (all_le h.1.1.2)⟩
theorem restTurn_row (E:List Int) (turn:List (List Int)) (i:Nat):((restTurn E turn).getD i []).length≤(turn.getD i []).length:=by
 unfold restTurn List.getD
 rw[List.getElem?_map]
 cases turn[i]? with
 | none=>simp
 | some l=>exact Nat.le_trans (Nat.le_of_eq (first_perm _).length_eq) (List.length_filter_le _ _)
end Plain
end Go.Proofs.YtkacjmoamgjfpaaGreat
namespace Go.Proofs.YtkacjmoamgjfpaaGreat
open Go
inductive Wy where
 | done:Wy
 | nil:Wy
 | then_:Nat→Wy→Wy
 | alt:Nat→Wy→Wy→Wy
section
variable {P : Program} {ops : Array Oper} {Q : Exit → Act → World → Prop} {md : Region.Mode} {S : World → Prop} {R : List Nat}
end
end Go.Proofs.YtkacjmoamgjfpaaGreat
namespace Go.Proofs.YtkacjmoamgjfpaaGreat
open Go.RowKit Go.Maps
namespace Plain
end Plain
end Go.Proofs.YtkacjmoamgjfpaaGreat
