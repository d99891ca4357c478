/- Turns begun anew: the same walks, the same error, the same drawing. No program here. -/
import Derived.Test.YtmhcmnaecpagiaaGreatZRefS
namespace Go.Proofs.YtmhcmnaecpagiaaGreat.Plain
theorem ring_agree {p q:Int→Int} {c:List Int} (h:Ring p c) (k:Ring q c):∀ x∈c,p x=q x:=by
 cases c with
 | nil=>simp
 | cons a l =>
  have e:=(Trail.map (show Trail p a l a from h)).trans (Trail.map (show Trail q a l a from k)).symm;exact fun x hx=>List.map_inj_left.1 e x hx
theorem ahead_roll {a b:List Int} (hn:(a++b).Nodup):∀ x∈a++b,ahead (b++a) x=ahead (a++b) x:=by
 intro x hx;have hn2:(b++a).Nodup:=(List.perm_append_comm).nodup_iff.1 hn;by_cases ha:a=[]
 ·subst ha;simp
 by_cases hb:b=[]
 ·subst hb;simp
 have h1:=ahead_ring hn (by simp[ha]);have h2:=ahead_ring hn2 (by simp[ha]);rw[List.reverse_append] at h1 h2;obtain⟨u,r,hr⟩:=List.exists_cons_of_ne_nil (show a.reverse≠[] by simpa using ha);obtain⟨v,s,hs⟩:=List.exists_cons_of_ne_nil (show b.reverse≠[] by simpa using hb);rw[hr,hs] at h1 h2;have h3:=Ring.turn (p:=ahead (a++b)) (l:=s) (m:=r) (x:=v) (y:=u) h1;have:=ring_agree h2 h3 x (by
  rw[←hr,←hs,List.mem_append,List.mem_reverse,List.mem_reverse];exact List.mem_append.1 hx)
 exact this
theorem first_split (l:List Int):∃ a b,l=a++b∧first l=b++a:=⟨l.take (lst l l.length),l.drop (lst l l.length),(List.take_append_drop _ _).symm,rfl⟩
theorem first_perm (l:List Int):(first l).Perm l:=by
 obtain⟨a,b,e1,e2⟩:=first_split l;rw[e2];exact List.perm_append_comm.trans (List.Perm.of_eq e1.symm)
theorem first_empty (l:List Int):(first l).isEmpty=l.isEmpty:=by
 have:=(first_perm l).length_eq;cases h:first l <;> cases h2:l <;> simp_all
theorem ahead_begun {l:List Int} (hn:l.Nodup):∀ x∈l,ahead (first l) x=ahead l x:=by
 obtain⟨a,b,e1,e2⟩:=first_split l;rw[e2];rw[e1] at hn ⊢;exact ahead_roll hn
theorem turnAt_map (turn:List (List Int)) (v:Int):turnAt (turn.map first) v=first (turnAt turn v):=by
 unfold turnAt List.getD;rw[List.getElem?_map];cases turn[v.toNat]? <;> rfl
theorem TurnsOk.first {g:Gr} {p:Pt} {turn:List (List Int)} (h:TurnsOk g p turn):TurnsOk g p (turn.map Plain.first):=by
 refine⟨by rw[List.length_map];exact h.len,fun v=>?_,fun v h0 hn d=>?_⟩
 ·rw[turnAt_map];exact (first_perm _).nodup_iff.2 (h.nodup v)
 rw[turnAt_map,(first_perm _).mem_iff];exact h.mem v h0 hn d
theorem turnsOk_first {g:Gr} {p:Pt} {turn:List (List Int)}:TurnsOk g p (turn.map Plain.first)↔TurnsOk g p turn:=by
 refine⟨fun h=>⟨by rw[←List.length_map (f:=Plain.first)];exact h.len,fun v=>?_,fun v h0 hn d=>?_⟩,fun h=>h.first⟩
 ·have:=h.nodup v
  rw[turnAt_map] at this;exact (first_perm _).nodup_iff.1 this
 have:=h.mem v h0 hn d;rw[turnAt_map,(first_perm _).mem_iff] at this;exact this
theorem next_first {g:Gr} {p:Pt} {turn:List (List Int)} (hp:PartOk g p) (h:TurnsOk g p turn) {d:Int} (hd:d∈p.darts):nextDart g (turn.map Plain.first) d=nextDart g turn d:=by
 unfold nextDart before;rw[turnAt_map];have ht:=twin_mem hd;have hv:=hp.vr _ (hp.tail_mem ht).1;exact ahead_begun (h.nodup _) _ ((h.mem _ hv.1 hv.2 _).2 ⟨ht,rfl⟩)
theorem loneAt_first (turn:List (List Int)) (l:List Int):loneAt (turn.map Plain.first) l=loneAt turn l:=by
 unfold loneAt
 congr 1
 refine List.filter_congr fun v _=>?_;rw[turnAt_map,first_empty]
theorem Trk.first {g:Gr} {p:Pt} {turn:List (List Int)} {F:List Face} {pre:List Int} (hp:PartOk g p) (ht:TurnsOk g p turn) (h:Trk g p turn F pre):Trk g p (turn.map Plain.first) F pre :=
 ⟨h.rings.congr fun x hx=>(next_first hp ht (h.sub x hx)).symm,h.sub,h.key,h.keys,h.least,h.cover⟩
theorem WalksOk.first {g:Gr} {p:Pt} {turn:List (List Int)} {W:List Face} (hp:PartOk g p) (ht:TurnsOk g p turn) (h:WalksOk g p turn W):WalksOk g p (turn.map Plain.first) W:=by
 obtain⟨F,e,k⟩:=h.split;rw[e,←loneAt_first turn];exact (k.first hp ht).walks hp
theorem walks_ok {g:Gr} {p:Pt} {turn:List (List Int)} (hpe:p.err g=0) (hto:TurnsOk g p turn):WalksOk g p turn (walksOf g p turn):=by
 rw[←mins_walks hpe hto];exact (mins_trk (Pt.ok_of_err hpe) (rises_pair (Pt.err_ok hpe).2.2.1) hto).walks (Pt.ok_of_err hpe)
theorem walks_first {g:Gr} {p:Pt} {turn:List (List Int)} (hpe:p.err g=0) (hto:TurnsOk g p turn):walksOf g p (turn.map Plain.first)=walksOf g p turn :=
 (((walks_ok hpe hto).first (Pt.ok_of_err hpe) hto).eq hpe).symm
theorem turnErr_first (g:Gr) (p:Pt) (turn:List (List Int)):turnErr g p (turn.map Plain.first)=turnErr g p turn:=by
 by_cases hpe:p.err g=0
 ·by_cases h:TurnsOk g p turn
  ·rw[turnErr_ok hpe h,turnErr_ok hpe h.first]
  rw[turnErr_bad hpe h,turnErr_bad hpe fun k=>h (turnsOk_first.1 k)]
 rw[turnErr_part hpe,turnErr_part hpe]
theorem flatErr_first (g:Gr) (p:Pt) (turn:List (List Int)):flatErr g p (turn.map Plain.first)=flatErr g p turn:=by
 by_cases h:turnErr g p turn=0
 ·obtain⟨hpe,hto⟩:=turnErr_zero h
  have h2:turnErr g p (turn.map Plain.first)=0:=(turnErr_first g p turn).trans h;have hw:=walks_first hpe hto;by_cases hf:Flat g p turn
  ·rw[flatErr_ok h hf,flatErr_ok h2 (by unfold Flat;rw[hw];exact hf)]
  rw[flatErr_bad h hf,flatErr_bad h2 (by unfold Flat;rw[hw];exact hf)]
 rw[flatErr_turn h,flatErr_turn (by rw[turnErr_first];exact h),turnErr_first]
end Go.Proofs.YtmhcmnaecpagiaaGreat.Plain
namespace Go.Proofs.YtmhcmnaecpagiaaGreat
open Go.RowKit Go.Maps
namespace Plain
end Plain
def Safe (w:World) (B:Nat) (v:Value):Prop:=∀ a n c,v=.slice (some a) n c→a.block<B∨∃ cs r,w.heap[a.block]?=some (.cells cs 3 r)
structure RowsMix (w:World) (B:Nat) (ov:Value) (vs:List Value) (ll:List (List Int)):Prop where
 out:w.ownsRow B 25 1 ov vs.length vs
 len:vs.length=ll.length
 rows:∀ k,k<vs.length→IntsAt w (vs.getD k undef) (ll.getD k [])∧CapOk (vs.getD k undef)∧Safe w B (vs.getD k undef)
end Go.Proofs.YtmhcmnaecpagiaaGreat
namespace Go.Proofs.YtmhcmnaecpagiaaGreat.Plain
def marks (f:Face):List Int:=if f.2=[] then [f.1] else f.2
def places8 (W:List Face):List (List Int):=W.map marks
theorem marks_nil {f:Face} (h:f.2=[]):marks f=[f.1]:=if_pos h
theorem marks_some {f:Face} (h:f.2≠[]):marks f=f.2:=if_neg h
theorem mem_marks {g:Gr} {p:Pt} {turn:List (List Int)} {W:List Face} (hpe:p.err g=0) (hW:WalksOk g p turn W) {f:Face} (hf:f∈W) {y:Int} (hy:y∈marks f):(y<0∧f.2=[]∧f.1=y)∨(0≤y∧y∈p.darts∧y∈f.2):=by
 rcases face_cases hpe hW hf with ⟨h1,h2,h3,-⟩ | ⟨d,l,h1,h2,h3,-⟩
 ·rw[marks_nil h1] at hy
  simp at hy;exact Or.inl ⟨by omega,h1,hy.symm⟩
 rw[marks_some (by rw[h2];simp)] at hy;right;obtain⟨F,e,hT⟩:=hW.split;have hm:f∈F:=by
  rw[e] at hf;rcases List.mem_append.1 hf with q | q
  ·obtain⟨v,-,rfl⟩:=List.mem_map.1 q
   cases h2
  exact q
 have hyd:=hT.sub y (List.mem_flatten.2 ⟨f.2,List.mem_map.2 ⟨f,hm,rfl⟩,hy⟩);have:=Pt.edge_in hpe (mem_darts.1 hyd);exact⟨by omega,hyd,hy⟩
theorem places_nodup {g:Gr} {p:Pt} {turn:List (List Int)} {W:List Face} (hpe:p.err g=0) (hW:WalksOk g p turn W):(places8 W).flatten.Nodup:=by
 have hk:=walks_keys hpe hW;rw[nodup_flat];obtain⟨F,e,hT⟩:=hW.split;have hFn:=nodup_flat.1 hT.rings.nodup;refine⟨fun l hl=>?_,?_⟩
 ·obtain⟨f,hf,rfl⟩:=List.mem_map.1 hl
  by_cases h:f.2=[]
  ·rw[marks_nil h];simp
  rw[marks_some h];rw[e] at hf;rcases List.mem_append.1 hf with q | q
  ·obtain⟨v,-,rfl⟩:=List.mem_map.1 q
   exact absurd rfl h
  exact hFn.1 _ (List.mem_map.2 ⟨f,q,rfl⟩)
 unfold places8;rw[List.pairwise_map];rw[List.pairwise_map] at hk;refine hk.imp_of_mem ?_;intro a b ha hb hab x hx y hy exy;subst exy;rcases mem_marks hpe hW ha hx with ⟨h1,-,h2⟩ | ⟨h1,-,h2⟩
 ·rcases mem_marks hpe hW hb hy with ⟨-,-,k2⟩ | ⟨k1,-,-⟩
  ·omega
  omega
 rcases mem_marks hpe hW hb hy with ⟨k1,-,-⟩ | ⟨-,-,k2⟩
 ·omega
 have hma:a∈F:=by
  rw[e] at ha;rcases List.mem_append.1 ha with q | q
  ·obtain⟨v,-,rfl⟩:=List.mem_map.1 q;simp at h2
  exact q
 have hmb:b∈F:=by
  rw[e] at hb;rcases List.mem_append.1 hb with q | q
  ·obtain⟨v,-,rfl⟩:=List.mem_map.1 q;simp at k2
  exact q
 have:=one_list hT.rings.nodup (List.mem_map.2 ⟨a,hma,rfl⟩) (List.mem_map.2 ⟨b,hmb,rfl⟩) h2 k2;obtain⟨la,ea⟩:=hT.key a hma;obtain⟨lb,eb⟩:=hT.key b hmb;rw[ea,eb] at this;have:a.1=b.1:=by simpa using (List.cons.inj this).1
 omega
end Go.Proofs.YtmhcmnaecpagiaaGreat.Plain
namespace Go.Proofs.YtmhcmnaecpagiaaGreat
open Go.RowKit Go.Maps
end Go.Proofs.YtmhcmnaecpagiaaGreat
namespace Go.Proofs.YtmhcmnaecpagiaaGreat
open Go.RowKit Go.Maps
namespace Plain
end Plain
end Go.Proofs.YtmhcmnaecpagiaaGreat
