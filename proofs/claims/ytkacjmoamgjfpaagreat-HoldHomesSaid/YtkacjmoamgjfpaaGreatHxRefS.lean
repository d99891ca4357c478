/- ref07: the contracts of Corner, Genus, Sphere. Conditions: a graph, a part, turns that lie in memory and read so, of a bounded size. -/
import Derived.Test.YtkacjmoamgjfpaaGreatHxClean
namespace Go.Proofs.YtkacjmoamgjfpaaGreat
open Go.RowKit Go.Maps
namespace Plain
theorem face_cases {g:Gr} {p:Pt} {turn:List (List Int)} {W:List Face} (hpe:p.err g=0) (hW:WalksOk g p turn W) {f:Face} (hf:f∈W) :
  (f.2=[]∧-2048<f.1∧f.1<0∧f.corner g = -1 - f.1)∨∃ (d:Nat) (l:List Int),f.1=(d:Int)∧f.2=(d:Int) :: l∧(d:Int)∈p.darts∧d / 2<g.e.length∧d<2048∧f.corner g=g.tail d:=by
 obtain⟨F,e,hT⟩:=hW.split
 rw[e] at hf
 rcases List.mem_append.1 hf with q | q
 ·obtain⟨v,hv,rfl⟩:=List.mem_map.1 q
  have hv:=List.mem_reverse.1 (List.mem_filter.1 hv).1
  have h1:=(Pt.ok_of_err hpe).vr v hv
  have h2:=(Gr.err_ok (Pt.err_ok hpe).1).2.1
  exact Or.inl ⟨rfl,by show -2048 < -1 - v;omega,by show -1 - v<0;omega,rfl⟩
 obtain⟨l,hl⟩:=hT.key f q
 have hd:f.1∈p.darts:=hT.sub _ (List.mem_flatten.2 ⟨f.2,List.mem_map.2 ⟨f,q,rfl⟩,by rw[hl];simp⟩)
 obtain⟨d,hd1,hd2,hd3⟩:=Pt.dart_nat hpe hd
 refine Or.inr ⟨d,l,hd1,by rw[hl,hd1],by rw[←hd1];exact hd,hd2,hd3,?_⟩
 unfold Face.corner
 rw[hl]
 show g.tail f.1=_
 rw[hd1]
end Plain
namespace Plain
end Plain
namespace Plain
end Plain
end Go.Proofs.YtkacjmoamgjfpaaGreat
namespace Go.Proofs.YtkacjmoamgjfpaaGreat.Plain
theorem ring_agree {p q:Int→Int} {c:List Int} (h:Ring p c) (k:Ring q c):∀ x∈c,p x=q x:=by
 cases c with
 | nil=>simp
 | cons a l =>
  have e:=(Trail.map (show Trail p a l a from h)).trans (Trail.map (show Trail q a l a from k)).symm
  exact fun x hx=>List.map_inj_left.1 e x hx
theorem ahead_roll {a b:List Int} (hn:(a++b).Nodup):∀ x∈a++b,ahead (b++a) x=ahead (a++b) x:=by
 intro x hx
 have hn2:(b++a).Nodup:=(List.perm_append_comm).nodup_iff.1 hn
 by_cases ha:a=[]
 ·subst ha;simp
 by_cases hb:b=[]
 ·subst hb;simp
 have h1:=ahead_ring hn (by simp[ha])
 have h2:=ahead_ring hn2 (by simp[ha])
 rw[List.reverse_append] at h1 h2
 obtain⟨u,r,hr⟩:=List.exists_cons_of_ne_nil (show a.reverse≠[] by simpa using ha)
 obtain⟨v,s,hs⟩:=List.exists_cons_of_ne_nil (show b.reverse≠[] by simpa using hb)
 rw[hr,hs] at h1 h2
 have h3:=Ring.turn (p:=ahead (a++b)) (l:=s) (m:=r) (x:=v) (y:=u) h1
 have:=ring_agree h2 h3 x (by
  rw[←hr,←hs,List.mem_append,List.mem_reverse,List.mem_reverse]
  exact List.mem_append.1 hx)
 exact this
theorem first_split (l:List Int):∃ a b,l=a++b∧first l=b++a:=⟨l.take (lst l l.length),l.drop (lst l l.length),(List.take_append_drop _ _).symm,rfl⟩
theorem first_perm (l:List Int):(first l).Perm l:=by
 obtain⟨a,b,e1,e2⟩:=first_split l
 rw[e2]
 exact List.perm_append_comm.trans (List.Perm.of_eq e1.symm)
theorem first_empty (l:List Int):(first l).isEmpty=l.isEmpty:=by
 have:=(first_perm l).length_eq
 cases h:first l <;> cases h2:l <;> simp_all
theorem ahead_begun {l:List Int} (hn:l.Nodup):∀ x∈l,ahead (first l) x=ahead l x:=by
 obtain⟨a,b,e1,e2⟩:=first_split l
 rw[e2]
 rw[e1] at hn ⊢
 exact ahead_roll hn
theorem turnAt_map (turn:List (List Int)) (v:Int):turnAt (turn.map first) v=first (turnAt turn v):=by
 unfold turnAt List.getD
 rw[List.getElem?_map]
 cases turn[v.toNat]? <;> rfl
theorem TurnsOk.first {g:Gr} {p:Pt} {turn:List (List Int)} (h:TurnsOk g p turn):TurnsOk g p (turn.map Plain.first):=by
 refine⟨by rw[List.length_map];exact h.len,fun v=>?_,fun v h0 hn d=>?_⟩
 ·rw[turnAt_map];exact (first_perm _).nodup_iff.2 (h.nodup v)
 rw[turnAt_map,(first_perm _).mem_iff];exact h.mem v h0 hn d
theorem turnsOk_first {g:Gr} {p:Pt} {turn:List (List Int)}:TurnsOk g p (turn.map Plain.first)↔TurnsOk g p turn:=by
 refine⟨fun h=>⟨by rw[←List.length_map (f:=Plain.first)];exact h.len,fun v=>?_,fun v h0 hn d=>?_⟩,fun h=>h.first⟩
 ·have:=h.nodup v
  rw[turnAt_map] at this
  exact (first_perm _).nodup_iff.1 this
 have:=h.mem v h0 hn d
 rw[turnAt_map,(first_perm _).mem_iff] at this
 exact this
theorem next_first {g:Gr} {p:Pt} {turn:List (List Int)} (hp:PartOk g p) (h:TurnsOk g p turn) {d:Int} (hd:d∈p.darts):nextDart g (turn.map Plain.first) d=nextDart g turn d:=by
 unfold nextDart before
 rw[turnAt_map]
 have ht:=twin_mem hd
 have hv:=hp.vr _ (hp.tail_mem ht).1
 exact ahead_begun (h.nodup _) _ ((h.mem _ hv.1 hv.2 _).2 ⟨ht,rfl⟩)
theorem loneAt_first (turn:List (List Int)) (l:List Int):loneAt (turn.map Plain.first) l=loneAt turn l:=by
 unfold loneAt
 congr 1
 refine List.filter_congr fun v _=>?_
 rw[turnAt_map,first_empty]
theorem Trk.first {g:Gr} {p:Pt} {turn:List (List Int)} {F:List Face} {pre:List Int} (hp:PartOk g p) (ht:TurnsOk g p turn) (h:Trk g p turn F pre):Trk g p (turn.map Plain.first) F pre :=
 ⟨h.rings.congr fun x hx=>(next_first hp ht (h.sub x hx)).symm,h.sub,h.key,h.keys,h.least,h.cover⟩
theorem WalksOk.first {g:Gr} {p:Pt} {turn:List (List Int)} {W:List Face} (hp:PartOk g p) (ht:TurnsOk g p turn) (h:WalksOk g p turn W):WalksOk g p (turn.map Plain.first) W:=by
 obtain⟨F,e,k⟩:=h.split
 rw[e,←loneAt_first turn]
 exact (k.first hp ht).walks hp
theorem walks_ok {g:Gr} {p:Pt} {turn:List (List Int)} (hpe:p.err g=0) (hto:TurnsOk g p turn):WalksOk g p turn (walksOf g p turn):=by
 rw[←mins_walks hpe hto]
 exact (mins_trk (Pt.ok_of_err hpe) (rises_pair (Pt.err_ok hpe).2.2.1) hto).walks (Pt.ok_of_err hpe)
theorem walks_first {g:Gr} {p:Pt} {turn:List (List Int)} (hpe:p.err g=0) (hto:TurnsOk g p turn):walksOf g p (turn.map Plain.first)=walksOf g p turn :=
 (((walks_ok hpe hto).first (Pt.ok_of_err hpe) hto).eq hpe).symm
theorem turnErr_first (g:Gr) (p:Pt) (turn:List (List Int)):turnErr g p (turn.map Plain.first)=turnErr g p turn:=by
 by_cases hpe:p.err g=0
 ·by_cases h:TurnsOk g p turn
  ·rw[turnErr_ok hpe h,turnErr_ok hpe h.first]
  rw[turnErr_bad hpe h,turnErr_bad hpe fun k=>h (turnsOk_first.1 k)]
 rw[turnErr_part hpe,turnErr_part hpe]
theorem flatErr_first (g:Gr) (p:Pt) (turn:List (List Int)):flatErr g p (turn.map Plain.first)=flatErr g p turn:=by
 by_cases h:turnErr g p turn=0
 ·obtain⟨hpe,hto⟩:=turnErr_zero h
  have h2:turnErr g p (turn.map Plain.first)=0:=(turnErr_first g p turn).trans h
  have hw:=walks_first hpe hto
  by_cases hf:Flat g p turn
  ·rw[flatErr_ok h hf,flatErr_ok h2 (by unfold Flat;rw[hw];exact hf)]
  rw[flatErr_bad h hf,flatErr_bad h2 (by unfold Flat;rw[hw];exact hf)]
 rw[flatErr_turn h,flatErr_turn (by rw[turnErr_first];exact h),turnErr_first]
theorem planErr_first (g:Gr) (p:Pt) (turn same:List (List Int)):planErr g p (turn.map Plain.first) same=planErr g p turn same:=by
 by_cases h:flatErr g p turn=0
 ·obtain⟨hte,-⟩:=flatErr_zero h
  obtain⟨hpe,hto⟩:=turnErr_zero hte
  rw[planErr_run h,planErr_run ((flatErr_first g p turn).trans h),walks_first hpe hto]
 rw[planErr_flat h,planErr_flat (by rw[flatErr_first];exact h),flatErr_first]
noncomputable def loneErr (g:Gr) (p:Pt) (turn:List (List Int)):Int:=if flatErr g p turn≠0 then flatErr g p turn else if (roots g p).length≤1 then 0 else 10
theorem lone_plan {g:Gr} {p:Pt} {turn:List (List Int)} (h:loneErr g p turn=0):planErr g p (turn.map Plain.first) []=0:=by
 unfold loneErr at h
 split at h
 ·rename_i q;exact absurd h q
 rename_i q
 have q:flatErr g p turn=0:=Classical.byContradiction q
 split at h
 ·rename_i q2
  rw[planErr_first,planErr_run q]
  have:=(PlanOk.start (fun _=>none) (roots g p).length).num
  simp only[List.length_nil,Nat.add_zero] at this
  show (if 1<(St.new (upTo (roots g p).length)).count then (7:Int) else 0)=0
  rw[if_neg]
  have h2:(St.new (upTo (roots g p).length)).count=(roots g p).length:=this
  omega
 cases h
end Go.Proofs.YtkacjmoamgjfpaaGreat.Plain
namespace Go.Proofs.YtkacjmoamgjfpaaGreat
open Go.RowKit Go.Maps
namespace Plain
end Plain
end Go.Proofs.YtkacjmoamgjfpaaGreat
namespace Go.Proofs.YtkacjmoamgjfpaaGreat.Plain
end Go.Proofs.YtkacjmoamgjfpaaGreat.Plain
