/- the law RestPlays: the walk. Conditions: a graph, two parts, a plan that lie in memory and read so. -/
import Derived.Test.YtkacjmoamgjfpaaGreatYxTo9
namespace Go.Proofs.YtkacjmoamgjfpaaGreat
open Go.RowKit Go.Maps
namespace Plain
theorem keep_rowi (E:List Int) (turn:List (List Int)) (i:Nat):((keepTurn E turn).getD i []).length≤(turn.getD i []).length:=by
 unfold keepTurn List.getD;rw[List.getElem?_map];cases turn[i]? with
 | none=>simp
 | some l=>exact List.length_filter_le _ _
theorem rest_firsts (E:List Int) (turn:List (List Int)):(restTurn E turn).map first=(keepTurn E turn).map first:=by
 rw[keep_first];unfold restTurn;rw[List.map_map];exact List.map_congr_left fun l _=>first_first _
end Plain
end Go.Proofs.YtkacjmoamgjfpaaGreat
namespace Go.Proofs.YtkacjmoamgjfpaaGreat.Plain
structure Eqv (R:Int→Int→Prop):Prop where
 refl:∀ x,R x x
 symm:∀ {x y},R x y→R y x
 trans:∀ {x y z},R x y→R y z→R x z
structure Reps (R:Int→Int→Prop) (K T:List Int):Prop where
 sub:∀ t∈T,t∈K
 all:∀ x∈K,∃ t∈T,R x t
 one:T.Pairwise fun a b=>¬ R a b
open Classical in
noncomputable def reps (R:Int→Int→Prop):List Int→List Int
 | []=>[]
 | x :: K=>if ∃ y∈reps R K,R x y then reps R K else x :: reps R K
noncomputable def cnt (R:Int→Int→Prop) (K:List Int):Nat:=(reps R K).length
def Jn (R:Int→Int→Prop) (a b x y:Int):Prop:=R x y∨(R x a∧R b y)∨(R x b∧R a y)
def Gen (R:Int→Int→Prop):List Int→Int→Int→Prop
 | []=>R
 | e :: E=>Jn (Gen R E) (2*e) (2*e+1)
def Same (C:List (List Int)) (x y:Int):Prop:=x=y∨∃ c∈C,x∈c∧y∈c
def tw:List Int→Int→Int
 | [],d=>d
 | e :: S,d=>tw S (swp (2*e) (2*e+1) d)
structure Cut (b:Int→Int) (B:List (List Int)) (K:List Int) (R:Int→Int→Prop) (T S:List Int):Prop where
 out:∀ e∈T,2*e∈K∧2*e+1∈K
 kept:∀ e∈S,2*e∈K∧2*e+1∈K
 left:∀ x∈K,Gen R T x (b (tw S x))
 flat:∀ C,Rings (fun x=>b (tw S x)) C→C.flatten.Perm K→B.length+C.length=2*cnt (Gen (Same B) S) K+S.length∧cnt (Gen (Same B) S) K+cnt (Gen R T) K=C.length+1
structure RunOk (n:Nat) (R:Int→Int→Prop) (c:St × List Int) (met:List Int):Prop where
 ok:c.1.Ok
 all:c.1.all=upTo n
 met:c.2=met
 rel:∀ x y,c.1.rel x y↔R x y
theorem Come.congr {g:Gr} {p q:Pt} {s a b:Int} (he:p.e=q.e) (h:Come g p s a b):Come g q s a b:=by
 induction h with
 | here=>exact .here
 | step _ hn hs ih =>
  obtain⟨e,h1,h2⟩:=hn;exact ih.step ⟨e,he ▸ h1,h2⟩ hs
def ground (g:Gr) (p:Pt) (turn:List (List Int)) (U:List Int):List Int:=leaving g p U++(U.filter fun v=>(turnAt turn v).isEmpty).map fun v=>-1 - v
def bef (g:Gr) (turn:List (List Int)) (d:Int):Int:=if d<0 then d else before g turn d
structure Stretch (g:Gr) (p:Pt) (U:List Int):Prop where
 nodup:U.Nodup
 sub:∀ v∈U,v∈p.v
 closed:Closed g p U
theorem regs_ok {g:Gr} {p:Pt} {turn same:List (List Int)} (_h:Parted g p turn same):IsRegs g p turn same (regionsOf g p turn same):=by
 unfold regionsOf;have hex:∃ ll,IsRegs g p turn same ll:=by
  refine⟨(allRegs g p turn same).mergeSort fun a b=>decide (a.getD 0 0≤b.getD 0 0),List.mergeSort_perm _ _,?_⟩;have:=List.pairwise_mergeSort (le:=fun a b:List Int=>decide (a.getD 0 0≤b.getD 0 0)) (fun a b c h1 h2=>by simp only[decide_eq_true_eq] at h1 h2 ⊢;omega) (fun a b=>by simp only[Bool.or_eq_true,decide_eq_true_eq];omega) (allRegs g p turn same);exact this.imp fun h=>of_decide_eq_true h
 rw[dif_pos hex];exact Classical.choose_spec hex
structure Subs (g:Gr) (p q:Pt) (turn:List (List Int)):Prop where
 pe:p.err g=0
 qe:q.err g=0
 to_:TurnsOk g p turn
 sube:∀ e∈q.e,e∈p.e
 subv:∀ v∈q.v,v∈p.v
section
variable {g : Gr} {p q : Pt} {turn : List (List Int)}
end
section
variable {g : Gr} {p q : Pt} {turn : List (List Int)}
structure RingsOf (g:Gr) (p q:Pt) (turn:List (List Int)) (C:List (List Int)):Prop where
 rings:Rings (fun x=>bef g turn (tw q.e x)) C
 all:C.flatten.Perm (ground g p turn p.v)
end
section
variable {g : Gr} {p q : Pt} {turn same : List (List Int)}
theorem zero_ok (hz:planErr g p turn same=0):p.err g=0∧TurnsOk g p turn:=turnErr_zero (flatErr_zero (planErr_zero hz).1).1
end
end Go.Proofs.YtkacjmoamgjfpaaGreat.Plain
