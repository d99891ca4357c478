/- A [][]int that the call itself makes, row by row: what it owns. No condition beyond what each law says. -/
import Derived.Test.YtbkjljffnkdcjaaGreatD9SetsA
open Go.Value renaming ownBlock→Qa,slice→Qg
open List renaming getElem?_append_left→Qb,length_set→Qc,getElem?_set_ne→Qd,getD→Qe
open Or renaming inr→Qf,inl→Qh
namespace Go.Proofs.YtbkjljffnkdcjaaGreat
open Go.RowKit Go.Maps
def ints (l:List Int):List Value:=l.map (Value.int .i64)
structure bW (w:World) (B:Nat) (ov:Value) (vs:List Value) (ll:List (List Int)):Prop where
 out:w.ownsRow B 25 1 ov vs.length vs
 len:vs.length=ll.length
 rows:∀ k,k<vs.length->w.ownsRow B 3 1 (vs.getD k undef) (ll.getD k []).length (ints (ll.getD k []))
 apart:∀ k l,k<vs.length->l<vs.length->k≠l->(vs.getD k undef).ownBlock=none\/(vs.getD k undef).ownBlock≠(vs.getD l undef).ownBlock
theorem bW.nil (w:World) (B:Nat):bW w B (.slice none 0 0) [] []:=⟨World.ownsRow_nil _ _ _ _,rfl,by simp,by simp⟩
theorem jJ {w:World} {B B':Nat} {v u:Value} {n m:Nat} {xs ys:List Value} {e e':TypeId} {sz sz':Nat} (h:w.ownsRow B e sz v n xs) (k:w.ownsRow B' e' sz' u m ys) (he:e≠e'):v.ownBlock=none\/v.ownBlock≠u.ownBlock:=by
 rcases h.2 with ⟨rfl,_⟩ | ⟨g,cap,cur,rfl,_,hg,_⟩
 ·exact Qh rfl
 rcases k.2 with ⟨rfl,_⟩ | ⟨g',eS,avW,rfl,_,UF,_⟩
 ·exact Qf (by simp[Qa])
 refine Qf (fun e1=>?_);simp[Qa] at e1;subst e1;rw[hg] at UF;simp at UF;exact he UF.2
theorem bW.aM {w w':World} {B:Nat} {ov:Value} {vs:List Value} {ll:List (List Int)} {own:List Nat} (h:bW w B ov vs ll) (hc:ai own w w') (h1:∀ b,ov.ownBlock=some b->b ∉ own) (h2:∀ k b,k<vs.length->(vs.getD k undef).ownBlock=some b->b ∉ own):bW w' B ov vs ll :=
 ⟨bE h.out hc h1,h.len,fun k hk=>bE (h.rows k hk) hc (fun b hb=>h2 k b hk hb),h.apart⟩
theorem bW.below {w w':World} {B:Nat} {ov:Value} {vs:List Value} {ll:List (List Int)} {own:List Nat} (h:bW w B ov vs ll) (hc:ai own w w') (hb:∀ j∈own,j<B):bW w' B ov vs ll :=
 h.aM hc (fun b Cc e=>by have:=(h.out.lt b Cc).1;have:=hb b e;omega) (fun k b hk Cc e=>by have:=((h.rows k hk).lt b Cc).1;have:=hb b e;omega)
theorem bW.push {w w':World} {B g cap:Nat} {ov:Value} {vs:List Value} {ll:List (List Int)} (h:bW w B ov vs ll) (hn:w'.ownsRow B 25 1 (.slice (some ⟨g,0,none⟩) (vs.length+1) cap) (vs.length+1) (vs++[.slice none 0 0])) (hc:ai ov.ownBlock.toList w w') :
  bW w' B (.slice (some ⟨g,0,none⟩) (vs.length+1) cap) (vs++[.slice none 0 0]) (ll++[[]]):=by
 have hl:=h.len;have old:∀ k,k<vs.length->(vs++[Qg none 0 0]).getD k undef=vs.getD k undef/\(ll++[[]]).getD k []=ll.getD k []:=by
  intro k hk;simp only[Qe];rw[Qb hk,Qb (by omega)];exact⟨rfl,rfl⟩
 have new:(vs++[Qg none 0 0]).getD vs.length undef=.slice none 0 0/\(ll++[[]]).getD vs.length []=[]:=by
  simp[Qe,hl]
 refine⟨by simpa using hn,by simp[hl],fun k hk=>?_,fun k l hk RC bh=>?_⟩
 ·by_cases e:k<vs.length
  ·rw[(old k e).1,(old k e).2]
   refine bE (h.rows k e) hc (fun b hb e1=>?_);rcases jJ (h.rows k e) h.out (by decide) with q | q
   ·rw[q] at hb;cases hb
   simp at e1;exact q (hb.trans e1.symm)
  have:k=vs.length:=by simp at hk;omega
  subst this;rw[new.1,new.2];exact World.ownsRow_nil _ _ _ _
 by_cases e:k<vs.length
 ·rw[(old k e).1]
  by_cases e2:l<vs.length
  ·rw[(old l e2).1]
   exact h.apart k l e e2 bh
  have:l=vs.length:=by simp at RC;omega
  subst this;rw[new.1];cases hq:(vs.getD k undef).ownBlock
  ·exact Qh rfl
  exact Qf (by simp[Qa])
 have:k=vs.length:=by simp at hk;omega
 subst this;rw[new.1];exact Qh rfl
theorem oN (l:List Value) (i:Nat) (v:Value) (j:Nat) (hi:i<l.length):(l.set i v).getD j undef=if j=i then v else l.getD j undef:=by
 by_cases e:j=i
 ·subst e;simp[hi]
 simp[Qe,Qd (Ne.symm e),e]
theorem sL {α:Type} (l:List (List α)) (i:Nat) (v:List α) (j:Nat) (hi:i<l.length):(l.set i v).getD j []=if j=i then v else l.getD j []:=by
 by_cases e:j=i
 ·subst e;simp[hi]
 simp[Qe,Qd (Ne.symm e),e]
theorem bW.put {w w':World} {B g g' cap eS:Nat} {n:Nat} {vs:List Value} {ll:List (List Int)} {q:Nat} {x:Int} (h:bW w B (.slice (some ⟨g,0,none⟩) n cap) vs ll) (hn:n=vs.length) (hq:q<vs.length)
  (hr:w'.ownsRow B 3 1 (.slice (some ⟨g',0,none⟩) ((ll.getD q []).length+1) eS) ((ll.getD q []).length+1) (ints (ll.getD q [])++[.int .i64 x])) (hc:ai (vs.getD q undef).ownBlock.toList w w') (hl:(vs.getD q undef).ownBlock=some g'\/w.heap.size<=g') :
  bW (w'.setCell ⟨g,q,none⟩ (.slice (some ⟨g',0,none⟩) ((ll.getD q []).length+1) eS)) B (.slice (some ⟨g,0,none⟩) n cap) (vs.set q (.slice (some ⟨g',0,none⟩) ((ll.getD q []).length+1) eS)) (ll.set q (ll.getD q []++[x])):=by
 subst hn;have Se:=h.len;have hgv:∀ k,k<vs.length->(vs.getD k undef).ownBlock≠some g:=by
  intro k hk e;rcases jJ (h.rows k hk) h.out (by decide) with q | q
  ·rw[q] at e;cases e
  exact q e
 have eQ:w'.ownsRow B 25 1 (.slice (some ⟨g,0,none⟩) vs.length cap) vs.length vs:=bE h.out hc (fun b hb e=>by
  simp[Qa] at hb;subst hb;simp at e;exact hgv q hq e)
 have hgg:g'≠g:=by
  intro e;rcases jJ hr eQ (by decide) with q | q
  ·simp[Qa] at q
  exact q (by simp[Qa,e])
 have hs:=eQ.stored q (.slice (some ⟨g',0,none⟩) ((ll.getD q []).length+1) eS);refine⟨by rw[Qc];exact hs.1,by simp[Se],fun k hk=>?_,fun k l hk RC bh=>?_⟩
 ·rw[Qc] at hk
  rw[oN _ _ _ _ hq,sL _ _ _ _ (by omega)];by_cases e:k=q
  ·subst e
   simp only[if_true];have e2:(ll.getD k []++[x]).length=(ll.getD k []).length+1:=by simp
   rw[e2];have:ints (ll.getD k []++[x])=ints (ll.getD k [])++[.int .i64 x]:=by simp[ints]
   rw[this];exact ownsRow_setCell_other hr (by simpa[Qa] using hgg) _
  rw[if_neg e,if_neg e];refine ownsRow_setCell_other (bE (h.rows k hk) hc (fun b hb e1=>?_)) (by simpa using hgv k hk) _;rcases h.apart k q hk hq e with r | r
  ·rw[r] at hb;cases hb
  simp at e1;exact r (hb.trans e1.symm)
 rw[Qc] at hk RC;rw[oN _ _ _ _ hq,oN _ _ _ _ hq];by_cases e:k=q
 ·subst e
  rw[if_pos rfl,if_neg (Ne.symm bh)];refine Qf (fun e1=>?_);replace e1:some g'=(vs.getD l undef).ownBlock:=e1;rcases hl with r | r
  ·rcases h.apart l k RC hk (Ne.symm bh) with t | t
   ·rw[t] at e1;cases e1
   exact t (e1.symm.trans r.symm)
  have:=((h.rows l RC).lt g' e1.symm).2;omega
 rw[if_neg e];by_cases e2:l=q
 ·subst e2
  rw[if_pos rfl];cases hb:(vs.getD k undef).ownBlock with
  | none=>exact Qh rfl
  | some b =>
   refine Qf (fun e1=>?_);simp[Qa] at e1;subst e1;rcases hl with r | r
   ·rcases h.apart k l hk RC bh with t | t
    ·rw[t] at hb;cases hb
    exact t (hb.trans r.symm)
   have:=((h.rows k hk).lt b hb).2;omega
 rw[if_neg e2];exact h.apart k l hk RC bh
end Go.Proofs.YtbkjljffnkdcjaaGreat
