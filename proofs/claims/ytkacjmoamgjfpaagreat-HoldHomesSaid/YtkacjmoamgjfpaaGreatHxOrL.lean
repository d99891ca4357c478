/- ref04.Or, whole: two rising lists merged. Conditions: lists that lie in memory and read so, of a bounded size. -/
import Derived.Test.YtkacjmoamgjfpaaGreatHxRefF
namespace Go.Proofs.YtkacjmoamgjfpaaGreat
open Go.RowKit Go.Maps
namespace Plain
def orL:List Int→List Int→List Int
 | [],b=>b
 | x :: a,[]=>x :: a
 | x :: a,y :: b=>if x≤y then (if x=y then x :: orL a b else x :: orL a (y :: b)) else y :: orL (x :: a) b
termination_by a b=>a.length+b.length
theorem orL_nil (a:List Int):orL a []=a:=by cases a <;> simp[orL]
theorem nil_orL (b:List Int):orL [] b=b:=by simp[orL]
theorem mem_orL {x:Int}:∀ {a b:List Int},x∈orL a b↔x∈a∨x∈b
 | [],b=>by simp[orL]
 | y :: a,[]=>by simp[orL]
 | y :: a,z :: b=>by
  rw[orL]
  split
  ·split
   ·rename_i h;subst h
    rw[List.mem_cons,mem_orL,List.mem_cons,List.mem_cons]
    exact⟨fun h=>h.elim (fun h=>Or.inl (Or.inl h)) (fun h=>h.elim (fun h=>Or.inl (Or.inr h)) (fun h=>Or.inr (Or.inr h))),fun h=>h.elim (fun h=>h.elim Or.inl (fun h=>Or.inr (Or.inl h))) (fun h=>h.elim Or.inl (fun h=>Or.inr (Or.inr h)))⟩
   have ih:=mem_orL (x:=x) (a:=a) (b:=z :: b)
   simp only[List.mem_cons,or_assoc] at ih ⊢
   rw[ih]
  rw[List.mem_cons,mem_orL,List.mem_cons (b:=z)]
  exact⟨fun h=>h.elim (fun h=>Or.inr (Or.inl h)) (fun h=>h.elim Or.inl (fun h=>Or.inr (Or.inr h))),fun h=>h.elim (fun h=>Or.inr (Or.inl h)) (fun h=>h.elim Or.inl (fun h=>Or.inr (Or.inr h)))⟩
termination_by a b=>a.length+b.length
theorem orL_rise:∀ {a b:List Int},a.Pairwise (·<·)→b.Pairwise (·<·)→(orL a b).Pairwise (·<·)
 | [],b,_,hb=>by rw[nil_orL];exact hb
 | y :: a,[],ha,_=>by rw[orL_nil];exact ha
 | y :: a,z :: b,ha,hb=>by
  have ha1:=List.pairwise_cons.1 ha
  have hb1:=List.pairwise_cons.1 hb
  rw[orL]
  split
  ·split
   ·rename_i h;subst h
    refine List.pairwise_cons.2 ⟨fun x hx=>?_,orL_rise ha1.2 hb1.2⟩
    exact (mem_orL.1 hx).elim (ha1.1 x) (hb1.1 x)
   rename_i h1 h2
   refine List.pairwise_cons.2 ⟨fun x hx=>?_,orL_rise ha1.2 hb⟩
   rcases mem_orL.1 hx with h | h
   ·exact ha1.1 x h
   rcases List.mem_cons.1 h with h | h
   ·omega
   have:=hb1.1 x h;omega
  rename_i h1
  refine List.pairwise_cons.2 ⟨fun x hx=>?_,orL_rise ha hb1.2⟩
  rcases mem_orL.1 hx with h | h
  ·rcases List.mem_cons.1 h with h | h
   ·omega
   have:=ha1.1 x h;omega
  exact hb1.1 x h
termination_by a b=>a.length+b.length
end Plain
end Go.Proofs.YtkacjmoamgjfpaaGreat
