/- ref07: the contracts of Corner, Genus, Sphere. Conditions: a graph, a part, turns that lie in memory and read so, of a bounded size. -/
import Derived.Test.YtkacjmoamgjfpaaGreatJClean
namespace Go.Proofs.YtkacjmoamgjfpaaGreat
open Go.RowKit Go.Maps
namespace Plain
theorem face_cases {g:Gr} {p:Pt} {turn:List (List Int)} {W:List Face} (hpe:p.err g=0) (hW:WalksOk g p turn W) {f:Face} (hf:f∈W) :
  (f.2=[]∧-2048<f.1∧f.1<0∧f.corner g = -1 - f.1)∨∃ (d:Nat) (l:List Int),f.1=(d:Int)∧f.2=(d:Int) :: l∧(d:Int)∈p.darts∧d / 2<g.e.length∧d<2048∧f.corner g=g.tail d:=by
 obtain⟨F,e,hT⟩:=hW.split
 rw[e] at hf
 rcases List.mem_append.1 hf with q | q
 ·obtain⟨v,hv,rfl⟩:=List.mem_map.1 q
  have hv:=List.mem_reverse.1 (List.mem_filter.1 hv).1
  have h1:=(Pt.ok_of_err hpe).vr v hv
  have h2:=(Gr.err_ok (Pt.err_ok hpe).1).2.1
  exact Or.inl ⟨rfl,by show -2048 < -1 - v;omega,by show -1 - v<0;omega,rfl⟩
 obtain⟨l,hl⟩:=hT.key f q
 have hd:f.1∈p.darts:=hT.sub _ (List.mem_flatten.2 ⟨f.2,List.mem_map.2 ⟨f,q,rfl⟩,by rw[hl];simp⟩)
 obtain⟨d,hd1,hd2,hd3⟩:=Pt.dart_nat hpe hd
 refine Or.inr ⟨d,l,hd1,by rw[hl,hd1],by rw[←hd1];exact hd,hd2,hd3,?_⟩
 unfold Face.corner
 rw[hl]
 show g.tail f.1=_
 rw[hd1]
end Plain
namespace Plain
end Plain
end Go.Proofs.YtkacjmoamgjfpaaGreat
