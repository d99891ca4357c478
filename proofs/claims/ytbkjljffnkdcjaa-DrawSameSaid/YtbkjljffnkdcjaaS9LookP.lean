/- The regions to the left of darts and around lone vertices, plainly. No program here. -/
import Derived.Test.YtbkjljffnkdcjaaS9RefS
namespace Go.Proofs.Ytbkjljffnkdcjaa.Plain
def marks (f:Face):List Int:=if f.2=[] then [f.1] else f.2
def places8 (W:List Face):List (List Int):=W.map marks
def numOf (ll:List (List Int)) (key:Int):Int:=((regionAt ll key).map fun (k:Nat)=>(k:Int)).getD 0
theorem marks_nil {f:Face} (h:f.2=[]):marks f=[f.1]:=if_pos h
theorem marks_some {f:Face} (h:f.2≠[]):marks f=f.2:=if_neg h
theorem mem_marks {g:Gr} {p:Pt} {turn:List (List Int)} {W:List Face} (hpe:p.err g=0) (hW:WalksOk g p turn W) {f:Face} (hf:f∈W) {y:Int} (hy:y∈marks f):(y<0∧f.2=[]∧f.1=y)∨(0≤y∧y∈p.darts∧y∈f.2):=by
 rcases face_cases hpe hW hf with ⟨h1,h2,h3,-⟩ | ⟨d,l,h1,h2,h3,-⟩
 ·rw[marks_nil h1] at hy
  simp at hy
  exact Or.inl ⟨by omega,h1,hy.symm⟩
 rw[marks_some (by rw[h2];simp)] at hy
 right
 obtain⟨F,e,hT⟩:=hW.split
 have hm:f∈F:=by
  rw[e] at hf
  rcases List.mem_append.1 hf with q | q
  ·obtain⟨v,-,rfl⟩:=List.mem_map.1 q
   cases h2
  exact q
 have hyd:=hT.sub y (List.mem_flatten.2 ⟨f.2,List.mem_map.2 ⟨f,hm,rfl⟩,hy⟩)
 have:=Pt.edge_in hpe (mem_darts.1 hyd)
 exact⟨by omega,hyd,hy⟩
theorem places_nodup {g:Gr} {p:Pt} {turn:List (List Int)} {W:List Face} (hpe:p.err g=0) (hW:WalksOk g p turn W):(places8 W).flatten.Nodup:=by
 have hk:=walks_keys hpe hW
 rw[nodup_flat]
 obtain⟨F,e,hT⟩:=hW.split
 have hFn:=nodup_flat.1 hT.rings.nodup
 refine⟨fun l hl=>?_,?_⟩
 ·obtain⟨f,hf,rfl⟩:=List.mem_map.1 hl
  by_cases h:f.2=[]
  ·rw[marks_nil h];simp
  rw[marks_some h]
  rw[e] at hf
  rcases List.mem_append.1 hf with q | q
  ·obtain⟨v,-,rfl⟩:=List.mem_map.1 q
   exact absurd rfl h
  exact hFn.1 _ (List.mem_map.2 ⟨f,q,rfl⟩)
 unfold places8
 rw[List.pairwise_map]
 rw[List.pairwise_map] at hk
 refine hk.imp_of_mem ?_
 intro a b ha hb hab x hx y hy exy
 subst exy
 rcases mem_marks hpe hW ha hx with ⟨h1,-,h2⟩ | ⟨h1,-,h2⟩
 ·rcases mem_marks hpe hW hb hy with ⟨-,-,k2⟩ | ⟨k1,-,-⟩
  ·omega
  omega
 rcases mem_marks hpe hW hb hy with ⟨k1,-,-⟩ | ⟨-,-,k2⟩
 ·omega
 have hma:a∈F:=by
  rw[e] at ha
  rcases List.mem_append.1 ha with q | q
  ·obtain⟨v,-,rfl⟩:=List.mem_map.1 q;simp at h2
  exact q
 have hmb:b∈F:=by
  rw[e] at hb
  rcases List.mem_append.1 hb with q | q
  ·obtain⟨v,-,rfl⟩:=List.mem_map.1 q;simp at k2
  exact q
 have:=one_list hT.rings.nodup (List.mem_map.2 ⟨a,hma,rfl⟩) (List.mem_map.2 ⟨b,hmb,rfl⟩) h2 k2
 obtain⟨la,ea⟩:=hT.key a hma
 obtain⟨lb,eb⟩:=hT.key b hmb
 rw[ea,eb] at this
 have:a.1=b.1:=by simpa using (List.cons.inj this).1
 omega
end Go.Proofs.Ytbkjljffnkdcjaa.Plain
namespace Go.Proofs.Ytbkjljffnkdcjaa
open Go.RowKit Go.Maps
end Go.Proofs.Ytbkjljffnkdcjaa
namespace Go.Proofs.Ytbkjljffnkdcjaa
open Go.RowKit Go.Maps
namespace Plain
end Plain
end Go.Proofs.Ytbkjljffnkdcjaa
