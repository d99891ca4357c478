/- A [][]int that the call itself makes, row by row: what it owns. No condition beyond what each law says. -/
import Derived.Test.YtkacjmoamgjfpaaGreatYxSetsA
namespace Go.Proofs.YtkacjmoamgjfpaaGreat
open Go.RowKit Go.Maps
def ints (l:List Int):List Value:=l.map (Value.int .i64)
structure RowsOwn (w:World) (B:Nat) (ov:Value) (vs:List Value) (ll:List (List Int)):Prop where
 out:w.ownsRow B 27 1 ov vs.length vs
 len:vs.length=ll.length
 rows:∀ k,k<vs.length→w.ownsRow B 3 1 (vs.getD k undef) (ll.getD k []).length (ints (ll.getD k []))
 apart:∀ k l,k<vs.length→l<vs.length→k≠l→(vs.getD k undef).ownBlock=none∨(vs.getD k undef).ownBlock≠(vs.getD l undef).ownBlock
theorem RowsOwn.nil (w:World) (B:Nat):RowsOwn w B (.slice none 0 0) [] []:=⟨World.ownsRow_nil _ _ _ _,rfl,by simp,by simp⟩
theorem owns_two {w:World} {B B':Nat} {v u:Value} {n m:Nat} {xs ys:List Value} {e e':TypeId} {sz sz':Nat} (h:w.ownsRow B e sz v n xs) (k:w.ownsRow B' e' sz' u m ys) (he:e≠e'):v.ownBlock=none∨v.ownBlock≠u.ownBlock:=by
 rcases h.2 with ⟨rfl,_⟩ | ⟨g,cap,cur,rfl,_,hg,_⟩
 ·exact Or.inl rfl
 rcases k.2 with ⟨rfl,_⟩ | ⟨g',cap',cur',rfl,_,hg',_⟩
 ·exact Or.inr (by simp[Value.ownBlock])
 refine Or.inr (fun e1=>?_);simp[Value.ownBlock] at e1;subst e1;rw[hg] at hg';simp at hg';exact he hg'.2
theorem RowsOwn.chg {w w':World} {B:Nat} {ov:Value} {vs:List Value} {ll:List (List Int)} {own:List Nat} (h:RowsOwn w B ov vs ll) (hc:Chg own w w') (h1:∀ b,ov.ownBlock=some b→b ∉ own) (h2:∀ k b,k<vs.length→(vs.getD k undef).ownBlock=some b→b ∉ own):RowsOwn w' B ov vs ll :=
 ⟨owns_chg h.out hc h1,h.len,fun k hk=>owns_chg (h.rows k hk) hc (fun b hb=>h2 k b hk hb),h.apart⟩
theorem RowsOwn.below {w w':World} {B:Nat} {ov:Value} {vs:List Value} {ll:List (List Int)} {own:List Nat} (h:RowsOwn w B ov vs ll) (hc:Chg own w w') (hb:∀ j∈own,j<B):RowsOwn w' B ov vs ll :=
 h.chg hc (fun b hb' e=>by have:=(h.out.lt b hb').1;have:=hb b e;omega) (fun k b hk hb' e=>by have:=((h.rows k hk).lt b hb').1;have:=hb b e;omega)
end Go.Proofs.YtkacjmoamgjfpaaGreat
