/- ref07: the contracts of Corner, Genus, Sphere. Conditions: a graph, a part, turns that lie in memory and read so, of a bounded size. -/
import Derived.Test.YtbkjljffnkdcjaaS9RegW
namespace Go.Proofs.Ytbkjljffnkdcjaa
open Go.RowKit Go.Maps
namespace Plain
theorem face_cases {g:Gr} {p:Pt} {turn:List (List Int)} {W:List Face} (hpe:p.err g=0) (hW:WalksOk g p turn W) {f:Face} (hf:f∈W) :
  (f.2=[]∧-2048<f.1∧f.1<0∧f.corner g = -1 - f.1)∨∃ (d:Nat) (l:List Int),f.1=(d:Int)∧f.2=(d:Int) :: l∧(d:Int)∈p.darts∧d / 2<g.e.length∧d<2048∧f.corner g=g.tail d:=by
 obtain⟨F,e,hT⟩:=hW.split
 rw[e] at hf
 rcases List.mem_append.1 hf with q | q
 ·obtain⟨v,hv,rfl⟩:=List.mem_map.1 q
  have hv:=List.mem_reverse.1 (List.mem_filter.1 hv).1
  have h1:=(Pt.ok_of_err hpe).vr v hv
  have h2:=(Gr.err_ok (Pt.err_ok hpe).1).2.1
  exact Or.inl ⟨rfl,by show -2048 < -1 - v;omega,by show -1 - v<0;omega,rfl⟩
 obtain⟨l,hl⟩:=hT.key f q
 have hd:f.1∈p.darts:=hT.sub _ (List.mem_flatten.2 ⟨f.2,List.mem_map.2 ⟨f,q,rfl⟩,by rw[hl];simp⟩)
 obtain⟨d,hd1,hd2,hd3⟩:=Pt.dart_nat hpe hd
 refine Or.inr ⟨d,l,hd1,by rw[hl,hd1],by rw[←hd1];exact hd,hd2,hd3,?_⟩
 unfold Face.corner
 rw[hl]
 show g.tail f.1=_
 rw[hd1]
end Plain
namespace Plain
end Plain
namespace Plain
end Plain
theorem equals_step {a b:List (List Int)} (hl:a.length=b.length):(List.range a.length).all (fun i=>decide (a.getD i []=b.getD i []))=decide (a=b):=by
 by_cases h:a=b
 ·subst h
  rw[decide_eq_true rfl,List.all_eq_true]
  simp
 rw[decide_eq_false h,List.all_eq_false]
 refine Classical.byContradiction fun q=>h (List.ext_getElem hl fun i h1 h2=>?_)
 refine Classical.byContradiction fun e=>q ⟨i,List.mem_range.2 h1,?_⟩
 simpa[List.getD,h1,h2] using e
set_option maxRecDepth 100000 in
set_option maxHeartbeats 2000000 in
theorem refEquals_any (va vb:Value) (a b:List (List Int)) (w:World) (ha:RowsAt w va a) (hb:RowsAt w vb b) :
  Calls Try.prog 7 #[va,vb] w fun e w'=>e=.returned (.bool (decide (a=b)))∧Chg [] w w':=by
 have HA:=lh ha
 have HB:=lh hb
 obtain⟨ao,ac,rfl,ham,-⟩:=ha
 obtain⟨bo,bc,rfl,hbm,-⟩:=hb
 by_cases hl:a.length=b.length
 ·have HE:=lh (equals_step hl)
  have HL:=lh hl
  have hb0:((a.length:Int) != (b.length:Int))=false:=by rw[hl];simp
  clear hl
  go_enter Try.func7,Try.ntmps7
  go_wp2
  go_loopw [5] (fun c wr=>∃ k:Nat,k≤a.length∧c=.int .i64 k∧Hid ((List.range k).all (fun i=>decide (a.getD i []=b.getD i []))=true)∧Chg [] w wr) (fun c _=>a.length - (intOf c).toNat)
  case atStart=>exact⟨0,Nat.zero_le _,rfl,rfl,Chg.refl _ _⟩
  case round =>
   obtain⟨k,hk,rfl,hall,hc⟩:=hrel
   have HC:=lh hc
   by_cases hlt:k<a.length
   ·have hkb:k<b.length:=by have:=HL.out;omega
    obtain⟨g1,o1,u1,c1,rfl,m1,r1⟩:=(HA.out.fresh hc).row hlt
    obtain⟨g2,o2,u2,c2,rfl,m2,r2⟩:=(HB.out.fresh hc).row hkb
    have HF:=lh (fun h=>Plain.all_range_false (p:=fun i=>decide (a.getD i []=b.getD i [])) hlt h)
    have HS:=lh (Plain.all_range_succ (fun i=>decide (a.getD i []=b.getD i [])) k)
    obtain⟨x,hx⟩:∃ x,a.getD k []=x:=⟨_,rfl⟩
    obtain⟨y,hy⟩:∃ y,b.getD k []=y:=⟨_,rfl⟩
    rw[hx] at m1 r1
    rw[hy] at m2 r2
    have HX:=lh hx
    have HY:=lh hy
    have R1:=lh r1
    have R2:=lh r2
    clear hc hx hy r1 r2
    go_wp2
    have hS0:Chg [] wr wr.drew:=(Chg.refl [] wr).drew
    refine wp_region_way (Chg [] wr) [0,1,2,3,4,5,6,7,9] (Way.line [0,1,2,3,4,5,6,7,8,9] .done) (by kernel_rfl) (by kernel_rfl) ?_
    simp only[Way.line]
    repeat
     first
      | (refine along_off rfl (by rfl) (by rfl) (fun _ _ _ h=>h) hS0 ?_;simp only[Act.put,Z1,Z2,Z3,Z4,Z5,Z6])
      | (refine along_read (v:=?_) rfl (by rfl) (by rfl) (fun _ _ _ h=>h) hS0 (fun w' hS'=>?_) ?_;rotate_left;(focus (have rd0:=hS'.cell m1 (by simp);have rd1:=hS'.cell m2 (by simp);clear hS';go_simp;try with_reducible rfl));simp only[Act.put,Z1,Z2,Z3,Z4,Z5,Z6])
      | (refine along_skip rfl (by rfl) (by rfl) hS0 ?_;simp only[Act.put,Z1,Z2,Z3,Z4,Z5,Z6])
    refine along_op rfl (by rfl) (by rfl) (fun K hK=>?_)
    go_simp
    refine (equal_any _ _ x y _ (R1.out.fresh hS0) (R2.out.fresh hS0)).mono ?_
    rintro e w3 ⟨rfl,hcx⟩
    have hS1:=hS0.trans hcx (by simp)
    clear hS0 hcx
    have hS0:=hS1
    clear hS1
    refine hK.out _ _ (fun _=>hS0) ?_
    clear hK K
    try simp only[Act.put,Z1,Z2,Z3,Z4,Z5,Z6]
    repeat
     first
      | (refine along_off rfl (by rfl) (by rfl) (fun _ _ _ h=>h) hS0 ?_;simp only[Act.put,Z1,Z2,Z3,Z4,Z5,Z6])
      | (refine along_read (v:=?_) rfl (by rfl) (by rfl) (fun _ _ _ h=>h) hS0 (fun w' hS'=>?_) ?_;rotate_left;(focus (have rd0:=hS'.cell m1 (by simp);have rd1:=hS'.cell m2 (by simp);clear hS';go_simp;try with_reducible rfl));simp only[Act.put,Z1,Z2,Z3,Z4,Z5,Z6])
      | (refine along_skip rfl (by rfl) (by rfl) hS0 ?_;simp only[Act.put,Z1,Z2,Z3,Z4,Z5,Z6])
    refine along_done ?_
    have HC3:=lh (HC.out.trans hS0 (by simp))
    clear hS0 m1 m2
    by_cases q:x=y
    ·rw[decide_eq_true q]
     have HK2:=lh (show (List.range (k+1)).all (fun i=>decide (a.getD i []=b.getD i []))=true by rw[HS.out,hall.out,HX.out,HY.out];simp[q])
     clear q
     go_wp2
     go_roundw
     case rel=>exact⟨k+1,by omega,by go_num,HK2,HC3.out⟩
     case measure=>simp[intOf];omega
    rw[decide_eq_false q]
    have HE2:=lh (show decide (a=b)=false by rw[←HE.out];exact HF.out (by rw[HX.out,HY.out];exact decide_eq_false q))
    clear q
    go_wp2
    go_ret
    exact⟨ret_bool HE2.out.symm,HC3.out⟩
   have e:k=a.length:=by omega
   subst e
   have HE2:=lh (HE.out.symm.trans hall.out)
   clear hc
   go_wp2
   go_ret
   exact⟨ret_bool HE2.out.symm,HC.out⟩
 have HE:=lh (show decide (a=b)=false from decide_eq_false (fun e=>hl (by rw[e])))
 have hb0:((a.length:Int) != (b.length:Int))=true:=by simp only[bne_iff_ne];omega
 clear hl
 go_enter Try.func7,Try.ntmps7
 go_wp2
 go_ret
 exact⟨ret_bool HE.out.symm,Chg.refl _ _⟩
end Go.Proofs.Ytbkjljffnkdcjaa
namespace Go.Proofs.Ytbkjljffnkdcjaa.Plain
theorem ring_agree {p q:Int→Int} {c:List Int} (h:Ring p c) (k:Ring q c):∀ x∈c,p x=q x:=by
 cases c with
 | nil=>simp
 | cons a l =>
  have e:=(Trail.map (show Trail p a l a from h)).trans (Trail.map (show Trail q a l a from k)).symm
  exact fun x hx=>List.map_inj_left.1 e x hx
theorem ahead_roll {a b:List Int} (hn:(a++b).Nodup):∀ x∈a++b,ahead (b++a) x=ahead (a++b) x:=by
 intro x hx
 have hn2:(b++a).Nodup:=(List.perm_append_comm).nodup_iff.1 hn
 by_cases ha:a=[]
 ·subst ha;simp
 by_cases hb:b=[]
 ·subst hb;simp
 have h1:=ahead_ring hn (by simp[ha])
 have h2:=ahead_ring hn2 (by simp[ha])
 rw[List.reverse_append] at h1 h2
 obtain⟨u,r,hr⟩:=List.exists_cons_of_ne_nil (show a.reverse≠[] by simpa using ha)
 obtain⟨v,s,hs⟩:=List.exists_cons_of_ne_nil (show b.reverse≠[] by simpa using hb)
 rw[hr,hs] at h1 h2
 have h3:=Ring.turn (p:=ahead (a++b)) (l:=s) (m:=r) (x:=v) (y:=u) h1
 have:=ring_agree h2 h3 x (by
  rw[←hr,←hs,List.mem_append,List.mem_reverse,List.mem_reverse]
  exact List.mem_append.1 hx)
 exact this
theorem first_split (l:List Int):∃ a b,l=a++b∧first l=b++a:=⟨l.take (lst l l.length),l.drop (lst l l.length),(List.take_append_drop _ _).symm,rfl⟩
theorem first_perm (l:List Int):(first l).Perm l:=by
 obtain⟨a,b,e1,e2⟩:=first_split l
 rw[e2]
 exact List.perm_append_comm.trans (List.Perm.of_eq e1.symm)
theorem first_empty (l:List Int):(first l).isEmpty=l.isEmpty:=by
 have:=(first_perm l).length_eq
 cases h:first l <;> cases h2:l <;> simp_all
theorem ahead_begun {l:List Int} (hn:l.Nodup):∀ x∈l,ahead (first l) x=ahead l x:=by
 obtain⟨a,b,e1,e2⟩:=first_split l
 rw[e2]
 rw[e1] at hn ⊢
 exact ahead_roll hn
theorem turnAt_map (turn:List (List Int)) (v:Int):turnAt (turn.map first) v=first (turnAt turn v):=by
 unfold turnAt List.getD
 rw[List.getElem?_map]
 cases turn[v.toNat]? <;> rfl
theorem TurnsOk.first {g:Gr} {p:Pt} {turn:List (List Int)} (h:TurnsOk g p turn):TurnsOk g p (turn.map Plain.first):=by
 refine⟨by rw[List.length_map];exact h.len,fun v=>?_,fun v h0 hn d=>?_⟩
 ·rw[turnAt_map];exact (first_perm _).nodup_iff.2 (h.nodup v)
 rw[turnAt_map,(first_perm _).mem_iff];exact h.mem v h0 hn d
theorem turnsOk_first {g:Gr} {p:Pt} {turn:List (List Int)}:TurnsOk g p (turn.map Plain.first)↔TurnsOk g p turn:=by
 refine⟨fun h=>⟨by rw[←List.length_map (f:=Plain.first)];exact h.len,fun v=>?_,fun v h0 hn d=>?_⟩,fun h=>h.first⟩
 ·have:=h.nodup v
  rw[turnAt_map] at this
  exact (first_perm _).nodup_iff.1 this
 have:=h.mem v h0 hn d
 rw[turnAt_map,(first_perm _).mem_iff] at this
 exact this
theorem next_first {g:Gr} {p:Pt} {turn:List (List Int)} (hp:PartOk g p) (h:TurnsOk g p turn) {d:Int} (hd:d∈p.darts):nextDart g (turn.map Plain.first) d=nextDart g turn d:=by
 unfold nextDart before
 rw[turnAt_map]
 have ht:=twin_mem hd
 have hv:=hp.vr _ (hp.tail_mem ht).1
 exact ahead_begun (h.nodup _) _ ((h.mem _ hv.1 hv.2 _).2 ⟨ht,rfl⟩)
theorem loneAt_first (turn:List (List Int)) (l:List Int):loneAt (turn.map Plain.first) l=loneAt turn l:=by
 unfold loneAt
 congr 1
 refine List.filter_congr fun v _=>?_
 rw[turnAt_map,first_empty]
theorem Trk.first {g:Gr} {p:Pt} {turn:List (List Int)} {F:List Face} {pre:List Int} (hp:PartOk g p) (ht:TurnsOk g p turn) (h:Trk g p turn F pre):Trk g p (turn.map Plain.first) F pre :=
 ⟨h.rings.congr fun x hx=>(next_first hp ht (h.sub x hx)).symm,h.sub,h.key,h.keys,h.least,h.cover⟩
theorem WalksOk.first {g:Gr} {p:Pt} {turn:List (List Int)} {W:List Face} (hp:PartOk g p) (ht:TurnsOk g p turn) (h:WalksOk g p turn W):WalksOk g p (turn.map Plain.first) W:=by
 obtain⟨F,e,k⟩:=h.split
 rw[e,←loneAt_first turn]
 exact (k.first hp ht).walks hp
theorem walks_ok {g:Gr} {p:Pt} {turn:List (List Int)} (hpe:p.err g=0) (hto:TurnsOk g p turn):WalksOk g p turn (walksOf g p turn):=by
 rw[←mins_walks hpe hto]
 exact (mins_trk (Pt.ok_of_err hpe) (rises_pair (Pt.err_ok hpe).2.2.1) hto).walks (Pt.ok_of_err hpe)
theorem walks_first {g:Gr} {p:Pt} {turn:List (List Int)} (hpe:p.err g=0) (hto:TurnsOk g p turn):walksOf g p (turn.map Plain.first)=walksOf g p turn :=
 (((walks_ok hpe hto).first (Pt.ok_of_err hpe) hto).eq hpe).symm
theorem turnErr_first (g:Gr) (p:Pt) (turn:List (List Int)):turnErr g p (turn.map Plain.first)=turnErr g p turn:=by
 by_cases hpe:p.err g=0
 ·by_cases h:TurnsOk g p turn
  ·rw[turnErr_ok hpe h,turnErr_ok hpe h.first]
  rw[turnErr_bad hpe h,turnErr_bad hpe fun k=>h (turnsOk_first.1 k)]
 rw[turnErr_part hpe,turnErr_part hpe]
theorem flatErr_first (g:Gr) (p:Pt) (turn:List (List Int)):flatErr g p (turn.map Plain.first)=flatErr g p turn:=by
 by_cases h:turnErr g p turn=0
 ·obtain⟨hpe,hto⟩:=turnErr_zero h
  have h2:turnErr g p (turn.map Plain.first)=0:=(turnErr_first g p turn).trans h
  have hw:=walks_first hpe hto
  by_cases hf:Flat g p turn
  ·rw[flatErr_ok h hf,flatErr_ok h2 (by unfold Flat;rw[hw];exact hf)]
  rw[flatErr_bad h hf,flatErr_bad h2 (by unfold Flat;rw[hw];exact hf)]
 rw[flatErr_turn h,flatErr_turn (by rw[turnErr_first];exact h),turnErr_first]
end Go.Proofs.Ytbkjljffnkdcjaa.Plain
namespace Go.Proofs.Ytbkjljffnkdcjaa
open Go.RowKit Go.Maps
namespace Plain
end Plain
def Safe (w:World) (B:Nat) (v:Value):Prop:=∀ a n c,v=.slice (some a) n c→a.block<B∨∃ cs r,w.heap[a.block]?=some (.cells cs 3 r)
structure RowsMix (w:World) (B:Nat) (ov:Value) (vs:List Value) (ll:List (List Int)):Prop where
 out:w.ownsRow B 25 1 ov vs.length vs
 len:vs.length=ll.length
 rows:∀ k,k<vs.length→IntsAt w (vs.getD k undef) (ll.getD k [])∧CapOk (vs.getD k undef)∧Safe w B (vs.getD k undef)
end Go.Proofs.Ytbkjljffnkdcjaa
