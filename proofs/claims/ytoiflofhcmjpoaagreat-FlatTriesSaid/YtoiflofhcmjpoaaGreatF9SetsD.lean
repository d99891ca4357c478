/- package sets: contracts of eI and of the laws' own example. Conditions: a list of fewer than 2^32 ints. -/
import Derived.Test.YtoiflofhcmjpoaaGreatF9SetsC
import Derived.Test.YtoiflofhcmjpoaaGreatF9Leav
namespace Go.Proofs.YtoiflofhcmjpoaaGreat
open Go.RowKit Go.Maps
variable {l:List Int} {k B b:Nat} {w:World}
theorem cI.empty (w:World):cI ((w.alloc (.map #[] 0)).alloc (.cells #[.map (some w.heap.size),.slice none 0 0,.slice none 0 0,.int .i64 0] 173)) (w.heap.size+1) [w.heap.size+1,w.heap.size] ⟨[],[]⟩:=by
 refine⟨w.heap.size,.slice none 0 0,.slice none 0 0,[],⟨?_,?_,World.ownsRow_nil _ _ _ _,World.ownsRow_nil _ _ _ _,Or.inl rfl,⟨rfl,by simp⟩,rfl,by simp,by simp⟩,rfl⟩
 ·have:=heap_alloc_new (w.alloc (.map #[] 0)) (.cells #[.map (some w.heap.size),.slice none 0 0,.slice none 0 0,.int .i64 0] 173)
  have e:(w.alloc (.map #[] 0)).heap.size=w.heap.size+1:=by simp
  rw[e] at this;exact this
 have:(pos ([]:List Int))=λ_=>none:=by funext x;simp[pos]
 simp only[List.length_nil];rw[this];exact (dx.made w).alloc _
def St.new (l:List Int):St:=l.foldl St.put ⟨[],[]⟩
theorem St.SL (h:k<l.length):St.new (l.take (k+1))=(St.new (l.take k)).put (l.getD k 0):=by
 unfold St.new;rw[List.take_succ_eq_append_getElem h,List.foldl_append]
 grind
theorem St.L5 (l:List Int):(St.new l).all.length<=l.length:=by
 have:∀ (l:List Int) (s:St),(l.foldl St.put s).all.length<=s.all.length+l.length:=by
  intro l
  induction l with
  | nil=>intro s;simp
  | cons x r ih =>
   grind [St.DX]
 grind [St.new]
theorem Wb (v:Value) (l:List Int) (w:World) (hn:l.length<4294967296) (h:aI w v l) :
  Calls Tryz.prog 92 #[v] w λe w'=>∃ pb own,e=.returned (.pointer (some ⟨pb,0,none⟩))/\cI w' pb own (St.new l)/\ai [] w w'/\∀ j∈own,w.heap.size<=j:=by
 obtain⟨ao,cap,rfl,fx,-,aS⟩:=h;have ze:=@run_makeMap Tryz.prog;have HE:=lh (cI.empty w);go_enter Tryz.func92,Tryz.ntmps92;go_wp2;go_loopw [11] (λc wr=>∃ k:Nat,k<=l.length/\c=.int .i64 k/\∃ own,cI wr (w.heap.size+1) own (St.new (l.take k))/\ai [] w wr/\∀ j∈own,w.heap.size<=j) (λc _=>l.length - (intOf c).toNat);case atStart=>exact⟨0,Nat.zero_le _,rfl,_,HE.out,((ai.refl _ _).alloc _).alloc _,by simp⟩
 case round =>
  obtain⟨k,hk,rfl,own,Xj,ij,b9⟩:=hrel;by_cases aW:k<l.length
  ·obtain⟨b,off,rfl,hc⟩:=aS (by grind)
   have ck:=ij.c (hc k aW);have hx:=fx (l.getD k 0) (by grind);have hl:=St.L5 (l.take k);have Cj:(l.take k).length<=k:=by grind
   have HX:=lh (St.SL aW);have HS:=lh fx;have HC:=lh hc;clear aS hc fx;generalize l.getD k 0=x at *;go_wp2_with fail;refine (Vo _ own _ x _ hx (by omega) Xj).mono ?_;rintro e w2 ⟨rfl,Eh,FU,bI,Pd⟩;have zF:=lh FU;have tF:=ij.trans bI (λj hj=>Or.inr (b9 j hj));have bs:=ij.size;have ag6:∀ j∈Eh,w.heap.size<=j:=λj hj=>by grind
   clear Xj ij b9 FU bI Pd ck;go_wp2;go_roundw;case rel=>exact⟨k+1,by omega,by go_num,Eh,by rw[HX.out];exact zF.out,tF,ag6⟩
   case measure=>simp[intOf];omega
  have e:k=l.length:=by omega
  subst e;have HO:=lh Xj;clear Xj;go_wp2;go_ret;exact⟨_,own,rfl,by simpa using HO.out,ij,b9⟩
section
variable {w : World} {b n : Nat} {f : Int -> Option Int}
end
section
variable (w : World) {ops : Array Oper} {rest : List Oper} {o : Oper} {a : Act} {Q : Exit -> Act -> World -> Prop} {K : Act -> World -> Prop}
end
structure ak8 (w:World) (rb:Nat) (T:List (List Int)) (lv pl:Int->Option Int) (ds:List Int) (vt vd:Value) (lb pb n m:Nat):Prop where
 cells:w.heap[rb]?=some (.cells #[vt,.map (some lb),.map (some pb),vd] 201 (0,0))
 aa:fY w vt T
 leaves:dx w lb n lv
 place:dx w pb m pl
 ah:aI w vd ds
namespace Plain
def EE (f:Int->Option Int) (l:List Int):Nat->Int->Option Int
 | 0=>f
 | k+1=>λy=>if y=l.getD k 0 then some (k:Int) else EE f l k y
def places (T:List (List Int)):Nat->Int->Option Int
 | 0=>λ_=>none
 | k+1=>EE (places T k) (first (T.getD k [])) (first (T.getD k [])).length
end Plain
theorem rE.row {v:Value} (h:aw w B v l):rE v:=by
 rcases h.1.2 with ⟨rfl,h0⟩ | ⟨g,cap,cur,rfl,_,_,h1,h2,_⟩
 ·exact⟨_,_,_,rfl,Nat.le_refl _,by decide⟩
 exact⟨_,_,_,rfl,h1,by unfold maxLen at h2;omega⟩
theorem bE {cs:Array Value} {t:TypeId} (h:w.heap[b]?=some (.cells cs t (0,0))) (i:Nat):w.frozen? ⟨b,i,none⟩=false:=by
 simp[World.frozen?,h]
structure apA (w0 w:World) (vd:Value) (lb:Nat) (R:List (List Int)) (pl:Int->Option Int) (N:Nat):Prop where
 obj:∃ tv vs,w.heap[w0.heap.size+1]?=some (.cells #[tv,.map (some lb),.map (some w0.heap.size),vd] 201 (0,0))/\bt w w0.heap.size tv vs R
 place:dx w w0.heap.size N pl
 ch:ai [] w0 w
end Go.Proofs.YtoiflofhcmjpoaaGreat
namespace Go.Proofs.YtoiflofhcmjpoaaGreat.Plain
variable {g:Gr} {p:Pt}
theorem bY:∀ {l m:List Int},l.Nodup->(∀ x∈l,x∈m)->l.length<=m.length
 | [],_,_,_=>Nat.zero_le _
 | x :: l,m,h,hs=>by
  rw[List.nodup_cons] at h;obtain⟨a,b,rfl⟩:=List.append_of_mem (hs x (by simp));have h2:=bY h.2 (m:=a++b) (λy hy=>by
   have h3:=hs y (by simp[hy]);have h4:y≠x:=λe=>h.1 (e ▸ hy);simp only[List.mem_append,List.mem_cons] at h3 ⊢;rcases h3 with q | q | q
   ·exact Or.inl q
   ·exact absurd q h4
   exact Or.inr q)
  simp only[List.length_append,List.length_cons] at h2 ⊢;omega
def seen (aa:List (List Int)) (k j:Nat):List Int:=(aa.take k).flatten++(aa.getD k []).take j
theorem mV {l:List Int} {j:Nat} (hj:j<l.length):l.take (j+1)=l.take j++[l.getD j 0]:=by
 rw[List.take_succ_eq_append_getElem hj]
 grind
theorem iD {L:List (List Int)}:L.flatten.Nodup↔(∀ l∈L,l.Nodup)/\L.Pairwise λa b=>∀ x∈a,∀ y∈b,x≠y:=by grind
structure Good (g:Gr) (p:Pt) (aa:List (List Int)) (k j:Nat):Prop where
 nodup:(seen aa k j).Nodup
 rows:∀ i,i<k->∀ d∈aa.getD i [],d∈p.ah/\g.tail d=(i:Int)
 last:∀ d∈(aa.getD k []).take j,d∈p.ah/\g.tail d=(k:Int)
open Classical in
noncomputable def cJ (g:Gr) (p:Pt) (aa:List (List Int)):Int:=if p.err g≠0 then p.err g else if aK g p aa then 0 else 5
theorem nK {aa:List (List Int)} (h:p.err g≠0):cJ g p aa=p.err g:=if_pos h
theorem lQ {aa:List (List Int)} (h:p.err g=0) (ht:¬ aK g p aa):cJ g p aa=5:=by
 grind [cJ]
theorem yL {aa:List (List Int)} (h:p.err g=0) (ht:aK g p aa):cJ g p aa=0:=by
 grind [cJ]
theorem nq {aa:List (List Int)} (h:cJ g p aa=0):p.err g=0/\aK g p aa:=by
 all_goals grind [lQ,nK]
end Go.Proofs.YtoiflofhcmjpoaaGreat.Plain
-- READS ONLY
namespace Go.Proofs.YtoiflofhcmjpoaaGreat
open Go.RowKit Go.Maps
section
variable (w : World) {ops : Array Oper} {rest : List Oper} {o : Oper} {a : Act} {Q : Exit -> Act -> World -> Prop}
end
theorem xP (w:World) {x y:Int} (hx:bF x) (hy:bF y):aI (w.alloc (.cells #[.int .i64 x,.int .i64 y] 3)) (.slice (some ⟨w.heap.size,0,none⟩) 2 2) [x,y]:=by
 refine⟨_,2,rfl,by simp[hx,hy],by simp,λ_=>⟨w.heap.size,0,rfl,λi hi=>?_⟩⟩;simp at hi;rw[cell_of_row _ _ _ _ _ _ (heap_alloc_new w _)];rcases i with _ | _ | i
 ·rfl
 ·rfl
 omega
