/- package sets: contracts of New and of the laws' own example. Conditions: a list of fewer than 2^32 ints. -/
import Derived.Test.YtbkjljffnkdcjaaS9SetsC
import Derived.Test.YtbkjljffnkdcjaaS9Row
namespace Go.Proofs.Ytbkjljffnkdcjaa
open Go.RowKit Go.Maps
theorem SetsObj.empty (w:World):SetsObj ((w.alloc (.map #[] 0)).alloc (.cells #[.map (some w.heap.size),.slice none 0 0,.slice none 0 0,.int .i64 0] 110)) (w.heap.size+1) [w.heap.size+1,w.heap.size] ⟨[],[]⟩:=by
 refine⟨w.heap.size,.slice none 0 0,.slice none 0 0,[],⟨?_,?_,World.ownsRow_nil _ _ _ _,World.ownsRow_nil _ _ _ _,Or.inl rfl,⟨rfl,by simp⟩,rfl,by simp,by simp⟩,rfl⟩
 ·have:=heap_alloc_new (w.alloc (.map #[] 0)) (.cells #[.map (some w.heap.size),.slice none 0 0,.slice none 0 0,.int .i64 0] 110)
  have e:(w.alloc (.map #[] 0)).heap.size=w.heap.size+1:=by simp
  rw[e] at this
  exact this
 have:(pos ([]:List Int))=fun _=>none:=by funext x;simp[pos]
 simp only[List.length_nil]
 rw[this]
 exact (IMap.made w).alloc _
def St.new (l:List Int):St:=l.foldl St.put ⟨[],[]⟩
theorem St.new_take {l:List Int} {k:Nat} (h:k<l.length):St.new (l.take (k+1))=(St.new (l.take k)).put (l.getD k 0):=by
 unfold St.new
 rw[List.take_succ_eq_append_getElem h,List.foldl_append]
 simp[List.getD,h]
theorem St.new_len (l:List Int):(St.new l).all.length≤l.length:=by
 have:∀ (l:List Int) (s:St),(l.foldl St.put s).all.length≤s.all.length+l.length:=by
  intro l
  induction l with
  | nil=>intro s;simp
  | cons x r ih =>
   intro s
   have:=ih (s.put x)
   have:=(s.len_put x).2
   simp only[List.foldl_cons,List.length_cons]
   omega
 simpa[St.new] using this l ⟨[],[]⟩
theorem new_any (v:Value) (l:List Int) (w:World) (hn:l.length<4294967296) (h:IntsAt w v l) :
  Calls Try.prog 52 #[v] w fun e w'=>∃ pb own,e=.returned (.pointer (some ⟨pb,0,none⟩))∧SetsObj w' pb own (St.new l)∧Chg [] w w'∧∀ j∈own,w.heap.size≤j:=by
 obtain⟨ao,cap,rfl,hsm,-,hcell⟩:=h
 have hmm:=@run_makeMap Try.prog
 have HE:=lh (SetsObj.empty w)
 go_enter Try.func52,Try.ntmps52
 go_wp2
 go_loopw [11] (fun c wr=>∃ k:Nat,k≤l.length∧c=.int .i64 k∧∃ own,SetsObj wr (w.heap.size+1) own (St.new (l.take k))∧Chg [] w wr∧∀ j∈own,w.heap.size≤j) (fun c _=>l.length - (intOf c).toNat)
 case atStart=>exact⟨0,Nat.zero_le _,rfl,_,HE.out,((Chg.refl _ _).alloc _).alloc _,by simp⟩
 case round =>
  obtain⟨k,hk,rfl,own,hobj,hch,hown⟩:=hrel
  by_cases hlt:k<l.length
  ·obtain⟨b,off,rfl,hc⟩:=hcell (by intro e;rw[e] at hlt;simp at hlt)
   have ck:=hch.cell (hc k hlt) (by simp)
   have hx:=hsm (l.getD k 0) (by simp[List.getD,hlt])
   have hl:=St.new_len (l.take k)
   have hl2:(l.take k).length≤k:=List.length_take_le _ _
   have HX:=lh (St.new_take hlt)
   have HS:=lh hsm
   have HC:=lh hc
   clear hcell hc hsm
   generalize l.getD k 0=x at *
   go_wp2_with fail
   refine (add_any _ own _ x _ hx (by omega) hobj).mono ?_
   rintro e w2 ⟨rfl,own2,ho2,hc2,hs2⟩
   have HO2:=lh ho2
   have hch2:=hch.trans hc2 (fun j hj=>Or.inr (hown j hj))
   have hsz:=hch.size
   have hown2:∀ j∈own2,w.heap.size≤j:=fun j hj=>by rcases hs2 j hj with q | q;exact hown j q;omega
   clear hobj hch hown ho2 hc2 hs2 ck
   go_wp2
   go_roundw
   case rel=>exact⟨k+1,by omega,by go_num,own2,by rw[HX.out];exact HO2.out,hch2,hown2⟩
   case measure=>simp[intOf];omega
  have e:k=l.length:=by omega
  subst e
  have HO:=lh hobj
  clear hobj
  go_wp2
  go_ret
  exact⟨_,own,rfl,by simpa using HO.out,hch,hown⟩
section
variable {w : World} {b n : Nat} {f : Int → Option Int}
end
section
variable (w : World) {ops : Array Oper} {rest : List Oper} {o : Oper} {a : Act} {Q : Exit → Act → World → Prop} {K : Act → World → Prop}
end
end Go.Proofs.Ytbkjljffnkdcjaa
namespace Go.Proofs.Ytbkjljffnkdcjaa
open Go.RowKit Go.Maps
namespace Plain
def placeRow (f:Int→Option Int) (l:List Int):Nat→Int→Option Int
 | 0=>f
 | k+1=>fun y=>if y=l.getD k 0 then some (k:Int) else placeRow f l k y
def places (T:List (List Int)):Nat→Int→Option Int
 | 0=>fun _=>none
 | k+1=>placeRow (places T k) (first (T.getD k [])) (first (T.getD k [])).length
end Plain
theorem free_at {w:World} {b:Nat} {cs:Array Value} {t:TypeId} (h:w.heap[b]?=some (.cells cs t (0,0))) (i:Nat):w.frozen? ⟨b,i,none⟩=false:=by
 simp[World.frozen?,h]
end Go.Proofs.Ytbkjljffnkdcjaa
