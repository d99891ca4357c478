/- The sides of vertices and of edges, plainly: an edge with an end on a side is on it. No program here. -/
import Derived.Test.YtkacjmoamgjfpaaGreatHxLookR
namespace Go.Proofs.YtkacjmoamgjfpaaGreat.Plain
theorem sideJoin_ok (L:Int→Option Int) (p:Pt) (cy:List Int) (k:Nat):(sideJoin L p cy k).Ok:=by
 induction k with
 | zero=>exact St.ok_nil
 | succ k ih =>
  by_cases h:p.e.getD k 0∈cy.map (· / 2)
  ·rw[sideJoin_on h];exact ih
  rw[sideJoin_off h];exact ih.join _ _
def sideRel (L:Int→Option Int) (p:Pt) (cy:List Int) (x y:Int):Prop:=(sideJoin L p cy p.e.length).rel x y
theorem sideJoin_mono {L:Int→Option Int} {p:Pt} {cy:List Int} {x y:Int} {k:Nat} (h:(sideJoin L p cy k).rel x y) (m:Nat):(sideJoin L p cy (k+m)).rel x y:=by
 induction m with
 | zero=>exact h
 | succ m ih =>
  by_cases q:p.e.getD (k+m) 0∈cy.map (· / 2)
  ·rw[←Nat.add_assoc,sideJoin_on q];exact ih
  rw[←Nat.add_assoc,sideJoin_off q,St.rel_join (sideJoin_ok L p cy _)];exact Or.inl ih
theorem sideRel_edge {L:Int→Option Int} {p:Pt} {cy:List Int} {e:Int} (he:e∈p.e) (hn:e ∉ cy.map (· / 2)):sideRel L p cy (lf L (2*e)) (lf L (2*e+1)):=by
 obtain⟨k,hk,rfl⟩:=mem_getD he
 have h1:(sideJoin L p cy (k+1)).rel (lf L (2*p.e.getD k 0)) (lf L (2*p.e.getD k 0+1)):=by
  rw[sideJoin_off hn];exact St.rel_joined (sideJoin_ok L p cy k) _ _
 have:=sideJoin_mono h1 (p.e.length - (k+1))
 rwa[show k+1+(p.e.length - (k+1))=p.e.length by omega] at this
theorem sideRel_least {L:Int→Option Int} {p:Pt} {cy:List Int} {R:Int→Int→Prop} (hr:∀ x,R x x) (hs:∀ x y,R x y→R y x) (ht:∀ x y z,R x y→R y z→R x z) (he:∀ e∈p.e,e ∉ cy.map (· / 2)→R (lf L (2*e)) (lf L (2*e+1))) {x y:Int} (h:sideRel L p cy x y):R x y:=by
 have key:∀ k,k≤p.e.length→∀ x y,(sideJoin L p cy k).rel x y→R x y:=by
  intro k
  induction k with
  | zero=>intro _ x y h;obtain rfl:=St.rel_nil.1 h;exact hr x
  | succ k ih =>
   intro hk x y h
   have ih:=ih (by omega)
   by_cases q:p.e.getD k 0∈cy.map (· / 2)
   ·rw[sideJoin_on q] at h;exact ih x y h
   rw[sideJoin_off q,St.rel_join (sideJoin_ok L p cy k)] at h
   have hR:=he _ (getD_mem (show k<p.e.length by omega)) q
   rcases h with h | ⟨h1,h2⟩ | ⟨h1,h2⟩
   ·exact ih x y h
   ·exact ht _ _ _ (ih _ _ h1) (ht _ _ _ hR (ih _ _ h2))
   exact ht _ _ _ (ih _ _ h1) (ht _ _ _ (hs _ _ hR) (ih _ _ h2))
 exact key _ (Nat.le_refl _) x y h
theorem ring_mem {q:Int→Int} {c:List Int} {x:Int} (h:Ring q c) (hx:x∈c):q x∈c:=by
 obtain⟨l,hr,hl⟩:=h.from hx
 refine hl.mem_iff.1 ?_
 cases l with
 | nil=>have e:q x=x:=hr;rw[e];simp
 | cons y m=>have e:q x=y:=hr.1;rw[e];simp
theorem left_next {g:Gr} {p:Pt} {turn:List (List Int)} {W:List Face} (ll:List (List Int)) (hpe:p.err g=0) (hW:WalksOk g p turn W) {x:Int} (hx:x∈p.darts):leftOf ll W (nextDart g turn x)=leftOf ll W x∧(leftOf ll W x).isSome=true:=by
 obtain⟨F,e,hT⟩:=hW.split
 obtain⟨l,hl,hxl⟩:=List.mem_flatten.1 (hT.cover x hx)
 obtain⟨f,hf,rfl⟩:=List.mem_map.1 hl
 have hn:=ring_mem (hT.rings.ring f.2 hl) hxl
 have hfW:f∈W:=by rw[e];exact List.mem_append.2 (Or.inr hf)
 obtain⟨i,hi,hfi⟩:=List.getElem_of_mem hfW
 have hm:marks f=f.2:=marks_some (by intro q;rw[q] at hxl;simp at hxl)
 have hp8:=places8_getD hi
 rw[show W.getD i (0,[])=f by simp[List.getD,hi,hfi],hm] at hp8
 have hnd:=places_nodup hpe hW
 have hi8:i<(places8 W).length:=by rw[places8_len];exact hi
 unfold leftOf
 rw[regionAt_hit hnd hi8 (by rw[hp8];exact hn),regionAt_hit hnd hi8 (by rw[hp8];exact hxl)]
 exact⟨rfl,rfl⟩
theorem twin_cases (d:Int):(d=2*(d / 2)∧twin d=2*(d / 2)+1)∨(d=2*(d / 2)+1∧twin d=2*(d / 2)):=by unfold twin;split <;> omega
end Go.Proofs.YtkacjmoamgjfpaaGreat.Plain
namespace Go.Proofs.YtkacjmoamgjfpaaGreat
open Go.RowKit Go.Maps
namespace Plain
end Plain
namespace Plain
end Plain
theorem alloc_at (w:World) (o:Obj) (n:Nat) (h:w.heap.size=n):(w.alloc o).heap[n]?=some o∧(w.alloc o).heap.size=n+1∧∀ (b:Nat) (o':Obj),w.heap[b]?=some o'→(w.alloc o).heap[b]?=some o':=by
 subst h
 exact⟨heap_alloc_new w o,by simp,fun b o' hb=>((Chg.refl [] w).alloc o).heap hb (by simp)⟩
theorem ints_two {w:World} {b:Nat} {x y:Int} (h:w.heap[b]?=some (.cells #[.int .i64 x,.int .i64 y] 3)) (hx:I64 x) (hy:I64 y):IntsAt w (.slice (some ⟨b,0,none⟩) 2 2) [x,y]:=by
 refine⟨_,2,rfl,by simp[hx,hy],by simp,fun _=>⟨b,0,rfl,fun i hi=>?_⟩⟩
 simp at hi
 rw[cell_of_row _ _ _ _ _ _ h]
 rcases i with _ | _ | i
 ·rfl
 ·rfl
 omega
theorem ints_three {w:World} {b:Nat} {x y z:Int} (h:w.heap[b]?=some (.cells #[.int .i64 x,.int .i64 y,.int .i64 z] 3)) (hx:I64 x) (hy:I64 y) (hz:I64 z):IntsAt w (.slice (some ⟨b,0,none⟩) 3 3) [x,y,z]:=by
 refine⟨_,3,rfl,by simp[hx,hy,hz],by simp,fun _=>⟨b,0,rfl,fun i hi=>?_⟩⟩
 simp at hi
 rw[cell_of_row _ _ _ _ _ _ h]
 rcases i with _ | _ | _ | i
 ·rfl
 ·rfl
 ·rfl
 omega
theorem lit_three (w:World) {x y z:Int} (hx:I64 x) (hy:I64 y) (hz:I64 z):IntsAt (w.alloc (.cells #[.int .i64 x,.int .i64 y,.int .i64 z] 3)) (.slice (some ⟨w.heap.size,0,none⟩) 3 3) [x,y,z]:=ints_three (heap_alloc_new w _) hx hy hz
theorem capOk (b n:Nat) (h:n≤100):CapOk (.slice (some ⟨b,0,none⟩) n n):=⟨_,n,n,rfl,Nat.le_refl _,by omega⟩
theorem gr_tri {w:World} {b:Nat} (h:w.heap[b]?=some (.cells #[.int .i64 0,.int .i64 1,.int .i64 1,.int .i64 2,.int .i64 2,.int .i64 0] 82)):GrAt w (.agg #[.int .i64 4,.slice (some ⟨b,0,none⟩) 3 3]) Plain.g1:=by
 have hc:=fun i=>cell_of_row w b i _ _ _ h
 refine⟨_,3,rfl,I64.mk (by decide) (by decide),by decide,fun i hi=>?_,fun i hi=>⟨b,0,rfl,?_⟩⟩
 ·have hi:i<3:=hi
  rcases (show i=0∨i=1∨i=2 by omega) with rfl | rfl | rfl
  ·exact⟨I64.mk (by decide) (by decide),I64.mk (by decide) (by decide)⟩
  ·exact⟨I64.mk (by decide) (by decide),I64.mk (by decide) (by decide)⟩
  exact⟨I64.mk (by decide) (by decide),I64.mk (by decide) (by decide)⟩
 have hi:i<3:=hi
 rcases (show i=0∨i=1∨i=2 by omega) with rfl | rfl | rfl
 ·exact⟨(hc 0).trans rfl,(hc 1).trans rfl⟩
 ·exact⟨(hc 2).trans rfl,(hc 3).trans rfl⟩
 exact⟨(hc 4).trans rfl,(hc 5).trans rfl⟩
theorem pl_tri {w:World} {b0 b1 b2 b3 b4 b5:Nat} {k:Int} (hk:I64 k) (h0:w.heap[b0]?=some (.cells #[.int .i64 0,.int .i64 5] 3)) (h1:w.heap[b1]?=some (.cells #[.int .i64 1,.int .i64 2] 3)) (h2:w.heap[b2]?=some (.cells #[.int .i64 3,.int .i64 4] 3))
  (h3:w.heap[b3]?=some (.cells #[.slice (some ⟨b0,0,none⟩) 2 2,.slice (some ⟨b1,0,none⟩) 2 2,.slice (some ⟨b2,0,none⟩) 2 2,.slice none 0 0] 27)) (h4:w.heap[b4]?=some (.cells #[.int .i64 (-4),.int .i64 k] 3)) (h5:w.heap[b5]?=some (.cells #[.slice (some ⟨b4,0,none⟩) 2 2] 27)) :
  PlAt w (.agg #[.slice (some ⟨b3,0,none⟩) 4 4,.slice (some ⟨b5,0,none⟩) 1 1]) Plain.t1 [[-4,k]]:=by
 have i0:∀ x:Int,-100≤x→x≤100→I64 x:=fun x a b=>I64.mk (by omega) (by omega)
 have hc3:=fun i=>cell_of_row w b3 i _ _ _ h3
 have hc5:=fun i=>cell_of_row w b5 i _ _ _ h5
 refine⟨_,_,rfl,⟨_,4,rfl,by decide,fun i hi=>?_⟩,⟨_,1,rfl,by simp,fun i hi=>?_⟩⟩
 ·have hi:i<4:=hi
  rcases (show i=0∨i=1∨i=2∨i=3 by omega) with rfl | rfl | rfl | rfl
  ·exact⟨b3,0,_,rfl,(hc3 0).trans rfl,capOk _ _ (by decide),ints_two h0 (i0 _ (by decide) (by decide)) (i0 _ (by decide) (by decide))⟩
  ·exact⟨b3,0,_,rfl,(hc3 1).trans rfl,capOk _ _ (by decide),ints_two h1 (i0 _ (by decide) (by decide)) (i0 _ (by decide) (by decide))⟩
  ·exact⟨b3,0,_,rfl,(hc3 2).trans rfl,capOk _ _ (by decide),ints_two h2 (i0 _ (by decide) (by decide)) (i0 _ (by decide) (by decide))⟩
  exact⟨b3,0,_,rfl,(hc3 3).trans rfl,⟨none,0,0,rfl,by decide,by decide⟩,IntsAt.nil _⟩
 have hi:i<1:=by simpa using hi
 obtain rfl:i=0:=by omega
 exact⟨b5,0,_,rfl,(hc5 0).trans rfl,capOk _ _ (by decide),ints_two h4 (i0 _ (by decide) (by decide)) hk⟩
end Go.Proofs.YtkacjmoamgjfpaaGreat
namespace Go.Proofs.YtkacjmoamgjfpaaGreat
open Go.RowKit Go.Maps
namespace Plain
end Plain
namespace Plain
end Plain
namespace Plain
def nearAt (L:Int→Option Int) (M:List Int) (j:Nat) (e:Int):Prop:=(lf L (2*e)=M.getD j 0→lf L (2*e+1)∈M)∧(lf L (2*e+1)=M.getD j 0→lf L (2*e)∈M)
structure LeftsAt (L:Int→Option Int) (p:Pt) (cy:List Int) (M:List Int) (i k:Nat):Prop where
 head:sideHead L cy∈M
 nodup:M.Nodup
 low:∀ r∈M,0≤r∧r≤10000
 rel:∀ r∈M,sideRel L p cy r (sideHead L cy)
 done:∀ j,j<i→∀ e∈p.e,e ∉ cy.map (· / 2)→nearAt L M j e
 now:∀ q,q<k→p.e.getD q 0 ∉ cy.map (· / 2)→nearAt L M i (p.e.getD q 0)
theorem left_dart {g:Gr} {p:Pt} {turn same:List (List Int)} (hz:planErr g p turn same=0) {d:Int} (hd:d∈p.darts):(leftOf (regionsOf g p turn same) (walksOf g p turn) d).isSome=true:=by
 obtain⟨hpe,hto⟩:=turnErr_zero (flatErr_zero (planErr_zero hz).1).1
 exact (left_next _ hpe (walks_ok hpe hto) hd).2
end Plain
end Go.Proofs.YtkacjmoamgjfpaaGreat
