/- ref08.Regions: its contract: the regions of a drawing. Conditions: a drawing that lies in memory and reads so, of a bounded size. -/
import Derived.Test.YtkacjmoamgjfpaaGreatHxRef8W
namespace Go.Proofs.YtkacjmoamgjfpaaGreat
open Go.RowKit Go.Maps
namespace Plain
end Plain
def Safe (w:World) (B:Nat) (v:Value):Prop:=∀ a n c,v=.slice (some a) n c→a.block<B∨∃ cs r,w.heap[a.block]?=some (.cells cs 3 r)
structure RowsMix (w:World) (B:Nat) (ov:Value) (vs:List Value) (ll:List (List Int)):Prop where
 out:w.ownsRow B 27 1 ov vs.length vs
 len:vs.length=ll.length
 rows:∀ k,k<vs.length→IntsAt w (vs.getD k undef) (ll.getD k [])∧CapOk (vs.getD k undef)∧Safe w B (vs.getD k undef)
end Go.Proofs.YtkacjmoamgjfpaaGreat
namespace Go.Proofs.YtkacjmoamgjfpaaGreat.Plain
def marks (f:Face):List Int:=if f.2=[] then [f.1] else f.2
def places8 (W:List Face):List (List Int):=W.map marks
def numTo (ll:List (List Int)) (i j:Nat):Int→Option Int:=fun y=>if y∈seen ll i j then (regionAt ll y).map fun (k:Nat)=>(k:Int) else none
theorem numTo_start (ll:List (List Int)):numTo ll 0 0=fun _=>none:=by funext y;simp[numTo,seen_zero]
theorem numTo_next {ll:List (List Int)} (hn:ll.flatten.Nodup) {i j:Nat} (hi:i<ll.length) (hj:j<(ll.getD i []).length):(fun y=>if y=(ll.getD i []).getD j 0 then some (i:Int) else numTo ll i j y)=numTo ll i (j+1):=by
 funext y
 unfold numTo
 rw[seen_next hj]
 by_cases e:y=(ll.getD i []).getD j 0
 ·rw[if_pos e,if_pos (by rw[e];simp),e,regionAt_hit hn hi (getD_mem hj)];rfl
 rw[if_neg e]
 by_cases h:y∈seen ll i j
 ·rw[if_pos h,if_pos (by simp[h])]
 rw[if_neg h,if_neg (fun hm=>(List.mem_append.1 hm).elim h fun q=>e (List.mem_singleton.1 q))]
theorem numTo_row {ll:List (List Int)} {i:Nat} (hi:i<ll.length):numTo ll i (ll.getD i []).length=numTo ll (i+1) 0:=by funext y;unfold numTo;rw[seen_row hi]
theorem numTo_all (ll:List (List Int)):numTo ll ll.length 0=fun y=>(regionAt ll y).map fun (k:Nat)=>(k:Int):=by
 funext y
 unfold numTo
 rw[seen_all]
 by_cases h:y∈ll.flatten
 ·rw[if_pos h]
 rw[if_neg h,regionAt_none.2 h];rfl
def numOf (ll:List (List Int)) (key:Int):Int:=((regionAt ll key).map fun (k:Nat)=>(k:Int)).getD 0
def leftTo (ll:List (List Int)) (W:List Face) (i j:Nat):Int→Option Int:=fun y=>if y∈seen (places8 W) i j then (regionAt (places8 W) y).map fun (k:Nat)=>numOf ll (W.getD k (0,[])).1 else none
def leftOf (ll:List (List Int)) (W:List Face):Int→Option Int:=fun y=>(regionAt (places8 W) y).map fun (k:Nat)=>numOf ll (W.getD k (0,[])).1
theorem leftTo_start (ll:List (List Int)) (W:List Face):leftTo ll W 0 0=fun _=>none:=by funext y;simp[leftTo,seen_zero]
theorem leftTo_next {ll:List (List Int)} {W:List Face} (hn:(places8 W).flatten.Nodup) {i j:Nat} (hi:i<(places8 W).length) (hj:j<((places8 W).getD i []).length) :
  (fun y=>if y=((places8 W).getD i []).getD j 0 then some (numOf ll (W.getD i (0,[])).1) else leftTo ll W i j y)=leftTo ll W i (j+1):=by
 funext y
 unfold leftTo
 rw[seen_next hj]
 by_cases e:y=((places8 W).getD i []).getD j 0
 ·rw[if_pos e,if_pos (by rw[e];simp),e,regionAt_hit hn hi (getD_mem hj)];rfl
 rw[if_neg e]
 by_cases h:y∈seen (places8 W) i j
 ·rw[if_pos h,if_pos (by simp[h])]
 rw[if_neg h,if_neg (fun hm=>(List.mem_append.1 hm).elim h fun q=>e (List.mem_singleton.1 q))]
theorem leftTo_row {ll:List (List Int)} {W:List Face} {i:Nat} (hi:i<(places8 W).length):leftTo ll W i ((places8 W).getD i []).length=leftTo ll W (i+1) 0:=by funext y;unfold leftTo;rw[seen_row hi]
theorem leftTo_all (ll:List (List Int)) (W:List Face):leftTo ll W (places8 W).length 0=leftOf ll W:=by
 funext y
 unfold leftTo leftOf
 rw[seen_all]
 by_cases h:y∈(places8 W).flatten
 ·rw[if_pos h]
 rw[if_neg h,regionAt_none.2 h];rfl
theorem places8_len (W:List Face):(places8 W).length=W.length:=by simp[places8]
theorem places8_getD {W:List Face} {i:Nat} (hi:i<W.length):(places8 W).getD i []=marks (W.getD i (0,[])):=by
 unfold places8 List.getD
 rw[List.getElem?_map,List.getElem?_eq_getElem hi]
 rfl
theorem marks_nil {f:Face} (h:f.2=[]):marks f=[f.1]:=if_pos h
theorem marks_some {f:Face} (h:f.2≠[]):marks f=f.2:=if_neg h
theorem mem_marks {g:Gr} {p:Pt} {turn:List (List Int)} {W:List Face} (hpe:p.err g=0) (hW:WalksOk g p turn W) {f:Face} (hf:f∈W) {y:Int} (hy:y∈marks f):(y<0∧f.2=[]∧f.1=y)∨(0≤y∧y∈p.darts∧y∈f.2):=by
 rcases face_cases hpe hW hf with ⟨h1,h2,h3,-⟩ | ⟨d,l,h1,h2,h3,-⟩
 ·rw[marks_nil h1] at hy
  simp at hy
  exact Or.inl ⟨by omega,h1,hy.symm⟩
 rw[marks_some (by rw[h2];simp)] at hy
 right
 obtain⟨F,e,hT⟩:=hW.split
 have hm:f∈F:=by
  rw[e] at hf
  rcases List.mem_append.1 hf with q | q
  ·obtain⟨v,-,rfl⟩:=List.mem_map.1 q
   cases h2
  exact q
 have hyd:=hT.sub y (List.mem_flatten.2 ⟨f.2,List.mem_map.2 ⟨f,hm,rfl⟩,hy⟩)
 have:=Pt.edge_in hpe (mem_darts.1 hyd)
 exact⟨by omega,hyd,hy⟩
theorem places_nodup {g:Gr} {p:Pt} {turn:List (List Int)} {W:List Face} (hpe:p.err g=0) (hW:WalksOk g p turn W):(places8 W).flatten.Nodup:=by
 have hk:=walks_keys hpe hW
 rw[nodup_flat]
 obtain⟨F,e,hT⟩:=hW.split
 have hFn:=nodup_flat.1 hT.rings.nodup
 refine⟨fun l hl=>?_,?_⟩
 ·obtain⟨f,hf,rfl⟩:=List.mem_map.1 hl
  by_cases h:f.2=[]
  ·rw[marks_nil h];simp
  rw[marks_some h]
  rw[e] at hf
  rcases List.mem_append.1 hf with q | q
  ·obtain⟨v,-,rfl⟩:=List.mem_map.1 q
   exact absurd rfl h
  exact hFn.1 _ (List.mem_map.2 ⟨f,q,rfl⟩)
 unfold places8
 rw[List.pairwise_map]
 rw[List.pairwise_map] at hk
 refine hk.imp_of_mem ?_
 intro a b ha hb hab x hx y hy exy
 subst exy
 rcases mem_marks hpe hW ha hx with ⟨h1,-,h2⟩ | ⟨h1,-,h2⟩
 ·rcases mem_marks hpe hW hb hy with ⟨-,-,k2⟩ | ⟨k1,-,-⟩
  ·omega
  omega
 rcases mem_marks hpe hW hb hy with ⟨k1,-,-⟩ | ⟨-,-,k2⟩
 ·omega
 have hma:a∈F:=by
  rw[e] at ha
  rcases List.mem_append.1 ha with q | q
  ·obtain⟨v,-,rfl⟩:=List.mem_map.1 q;simp at h2
  exact q
 have hmb:b∈F:=by
  rw[e] at hb
  rcases List.mem_append.1 hb with q | q
  ·obtain⟨v,-,rfl⟩:=List.mem_map.1 q;simp at k2
  exact q
 have:=one_list hT.rings.nodup (List.mem_map.2 ⟨a,hma,rfl⟩) (List.mem_map.2 ⟨b,hmb,rfl⟩) h2 k2
 obtain⟨la,ea⟩:=hT.key a hma
 obtain⟨lb,eb⟩:=hT.key b hmb
 rw[ea,eb] at this
 have:a.1=b.1:=by simpa using (List.cons.inj this).1
 omega
theorem numOf_small (ll:List (List Int)) (key:Int):0≤numOf ll key∧numOf ll key≤ll.length:=by
 unfold numOf
 cases h:regionAt ll key with
 | none=>simp
 | some k =>
  have:=(regionAt_lt h).1
  simp
  omega
theorem face_len {g:Gr} {p:Pt} {turn:List (List Int)} {W:List Face} (_hpe:p.err g=0) (hW:WalksOk g p turn W) {f:Face} (hf:f∈W):f.2.length≤2*p.e.length:=by
 obtain⟨F,e,hT⟩:=hW.split
 rw[e] at hf
 rcases List.mem_append.1 hf with q | q
 ·obtain⟨v,-,rfl⟩:=List.mem_map.1 q
  simp
 have hn:=(nodup_flat.1 hT.rings.nodup).1 _ (List.mem_map.2 ⟨f,q,rfl⟩)
 have:=len_le_of_sub hn (m:=p.darts) fun y hy=>hT.sub y (List.mem_flatten.2 ⟨f.2,List.mem_map.2 ⟨f,q,rfl⟩,hy⟩)
 rwa[darts_length] at this
end Go.Proofs.YtkacjmoamgjfpaaGreat.Plain
namespace Go.Proofs.YtkacjmoamgjfpaaGreat
open Go.RowKit Go.Maps
end Go.Proofs.YtkacjmoamgjfpaaGreat
