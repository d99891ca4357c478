/- ref02: the contracts of Find, Right. Condition: a list that lies in memory and reads so. -/
import Derived.Test.YtkacjmoamgjfpaaGreatHxRefQ
namespace Go.Proofs.YtkacjmoamgjfpaaGreat
open Go.RowKit Go.Maps
namespace Plain
end Plain
namespace Plain
end Plain
end Go.Proofs.YtkacjmoamgjfpaaGreat
namespace Go.Proofs.YtkacjmoamgjfpaaGreat.Plain
theorem rings_next {g:Gr} {p:Pt} {turn:List (List Int)} (hp:PartOk g p) (ht:TurnsOk g p turn):∃ C,Rings (nextDart g turn) C∧C.flatten.Perm p.darts:=by
 obtain⟨h1,h2⟩:=before_rings ht hp.en hp.vn hp.vr
 have hA:=twin_rings hp.en
 have hl:leaving g p p.v=p.darts:=List.filter_eq_self.2 fun d hd=>decide_eq_true (hp.tail_mem hd).1
 have hd:(p.e.map fun e=>[2*e,2*e+1]).flatten=p.darts:=by rw[Pt.darts,List.flatMap_def]
 obtain⟨C,h,k,-⟩:=Rings.mul _ rfl h1 hA (by rw[hd,←hl];exact h2.symm)
 exact⟨C,h.congr fun x _=>rfl,by rw[hd] at k;exact k⟩
structure Cyc (g:Gr) (p:Pt) (turn:List (List Int)) (d:Int) (l:List Int):Prop where
 ring:Ring (nextDart g turn) (d :: l)
 nodup:(d :: l).Nodup
 sub:∀ x∈d :: l,x∈p.darts
theorem cyc_some {g:Gr} {p:Pt} {turn:List (List Int)} (hp:PartOk g p) (ht:TurnsOk g p turn) {d:Int} (hd:d∈p.darts):∃ l,Cyc g p turn d l:=by
 obtain⟨C,hC,hperm⟩:=rings_next hp ht
 obtain⟨c,hc,hdc⟩:=List.mem_flatten.1 (hperm.mem_iff.2 hd)
 obtain⟨l,hl,hlp⟩:=(hC.ring c hc).from hdc
 exact⟨l,hl,hlp.nodup_iff.2 ((nodup_flat.1 hC.nodup).1 c hc),fun x hx=>hperm.mem_iff.1 (List.mem_flatten.2 ⟨c,hc,hlp.mem_iff.1 hx⟩)⟩
theorem Cyc.one {g:Gr} {p:Pt} {turn:List (List Int)} {d:Int} {l m:List Int} (h:Cyc g p turn d l) (k:Cyc g p turn d m):l=m :=
 Trail.det (x:=d) h.ring k.ring (List.nodup_cons.1 h.nodup).1 (List.nodup_cons.1 k.nodup).1
theorem Cyc.turn {g:Gr} {p:Pt} {turn:List (List Int)} {d x:Int} {l:List Int} (h:Cyc g p turn d l) (hx:x∈d :: l):∃ m,Cyc g p turn x m∧(x :: m).Perm (d :: l):=by
 obtain⟨m,hm,hp⟩:=h.ring.from hx
 exact⟨m,⟨hm,hp.nodup_iff.2 h.nodup,fun y hy=>h.sub y (hp.mem_iff.1 hy)⟩,hp⟩
open Classical in
noncomputable def cycOf (g:Gr) (p:Pt) (turn:List (List Int)) (d:Int):List Int:=if h:∃ l,Cyc g p turn d l then Classical.choose h else []
theorem cycOf_ok {g:Gr} {p:Pt} {turn:List (List Int)} (hp:PartOk g p) (ht:TurnsOk g p turn) {d:Int} (hd:d∈p.darts):Cyc g p turn d (cycOf g p turn d):=by
 have h:=cyc_some hp ht hd
 unfold cycOf
 rw[dif_pos h]
 exact Classical.choose_spec h
noncomputable def minAt (g:Gr) (p:Pt) (turn:List (List Int)) (d:Int):Bool:=(cycOf g p turn d).all fun x=>decide (d<x)
noncomputable def minsTo (g:Gr) (p:Pt) (turn:List (List Int)) (k:Nat):List Face:=((p.darts.take k).filter (minAt g p turn)).map fun d=>(d,d :: cycOf g p turn d)
theorem min_of_mem {g:Gr} {p:Pt} {turn:List (List Int)} {f:Face} {k:Nat} (h:f∈minsTo g p turn k):f.1∈p.darts∧minAt g p turn f.1=true∧f.2=f.1 :: cycOf g p turn f.1:=by
 unfold minsTo at h
 obtain⟨d,hd,rfl⟩:=List.mem_map.1 h
 obtain⟨h1,h2⟩:=List.mem_filter.1 hd
 exact⟨(List.take_sublist _ _).subset h1,h2,rfl⟩
theorem mins_trk {g:Gr} {p:Pt} {turn:List (List Int)} (hp:PartOk g p) (hr:p.e.Pairwise (·<·)) (ht:TurnsOk g p turn):Trk g p turn (minsTo g p turn p.darts.length) p.darts:=by
 have hle:∀ f∈minsTo g p turn p.darts.length,∀ y∈f.2,f.1≤y:=by
  intro f hf y hy
  obtain⟨-,h2,h3⟩:=min_of_mem hf
  rw[h3] at hy
  rcases List.mem_cons.1 hy with q | q
  ·omega
  have:=List.all_eq_true.1 h2 y q
  simp at this;omega
 have hcy:∀ f∈minsTo g p turn p.darts.length,Cyc g p turn f.1 (cycOf g p turn f.1):=fun f hf=>cycOf_ok hp ht (min_of_mem hf).1
 have hkeys:((minsTo g p turn p.darts.length).map (·.1))=p.darts.filter (minAt g p turn):=by
  unfold minsTo
  rw[List.take_length,List.map_map]
  exact List.map_id' _
 have hdp:=darts_pair hr
 have hksub:((minsTo g p turn p.darts.length).map (·.1)).Sublist p.darts:=by rw[hkeys];exact List.filter_sublist
 have hone:∀ f∈minsTo g p turn p.darts.length,∀ f'∈minsTo g p turn p.darts.length,∀ y,y∈f.2→y∈f'.2→f.1=f'.1:=by
  intro f hf f' hf' y hy hy'
  have h3:=(min_of_mem hf).2.2
  have h3':=(min_of_mem hf').2.2
  rw[h3] at hy
  rw[h3'] at hy'
  obtain⟨m,hm,hmp⟩:=(hcy f hf).turn hy
  obtain⟨m',hm',hmp'⟩:=(hcy f' hf').turn hy'
  have:=hm.one hm'
  subst this
  have hperm:=hmp.symm.trans hmp'
  have h1:=hle f hf f'.1 (by rw[h3];exact hperm.mem_iff.2 (by simp))
  have h2:=hle f' hf' f.1 (by rw[h3'];exact hperm.mem_iff.1 (by simp))
  omega
 refine⟨⟨fun c hc=>?_,?_⟩,fun x hx=>?_,fun f hf=>⟨_,(min_of_mem hf).2.2⟩,hksub,fun f hf=>?_,fun x hx=>?_⟩
 ·obtain⟨f,hf,rfl⟩:=List.mem_map.1 hc
  rw[(min_of_mem hf).2.2]
  exact (hcy f hf).ring
 ·rw[nodup_flat]
  refine⟨fun l hl=>?_,?_⟩
  ·obtain⟨f,hf,rfl⟩:=List.mem_map.1 hl
   rw[(min_of_mem hf).2.2]
   exact (hcy f hf).nodup
  rw[List.pairwise_map]
  have hkp:(minsTo g p turn p.darts.length).Pairwise fun a b=>a.1<b.1:=by
   have:=hdp.sublist hksub
   rwa[List.pairwise_map] at this
  refine hkp.imp_of_mem ?_
  intro a b ha hb hab x hx y hy e
  subst e
  have:=hone a ha b hb x hx hy
  omega
 ·obtain⟨c,hc,hxc⟩:=List.mem_flatten.1 hx
  obtain⟨f,hf,rfl⟩:=List.mem_map.1 hc
  rw[(min_of_mem hf).2.2] at hxc
  exact (hcy f hf).sub x hxc
 ·obtain⟨a,b,e⟩:=List.append_of_mem (min_of_mem hf).1
  refine⟨a,b,e,fun y hy ha=>?_⟩
  have h1:=hle f hf y hy
  rw[e] at hdp
  have:=(List.pairwise_append.1 hdp).2.2 y ha f.1 (by simp)
  omega
 obtain⟨l,hl⟩:=cyc_some hp ht hx
 obtain⟨d,hd,hmin⟩:=exists_least (l:=x :: l) (by simp)
 obtain⟨m,hm,hmp⟩:=hl.turn hd
 have hdd:=hl.sub d hd
 have e:=(cycOf_ok hp ht hdd).one hm
 have hma:minAt g p turn d=true:=by
  unfold minAt
  rw[List.all_eq_true,e]
  intro y hy
  have h1:=hmin y (hmp.mem_iff.1 (by simp[hy]))
  have h2:d≠y:=fun q=>(List.nodup_cons.1 hm.nodup).1 (q ▸ hy)
  simp;omega
 refine List.mem_flatten.2 ⟨d :: cycOf g p turn d,List.mem_map.2 ⟨(d,d :: cycOf g p turn d),List.mem_map.2 ⟨d,List.mem_filter.2 ⟨by rw[List.take_length];exact hdd,hma⟩,rfl⟩,rfl⟩,?_⟩
 rw[e]
 exact hmp.mem_iff.2 (by simp)
theorem mins_walks {g:Gr} {p:Pt} {turn:List (List Int)} (hr:p.err g=0) (ht:TurnsOk g p turn):loneAt turn p.v++minsTo g p turn p.darts.length=walksOf g p turn :=
 ((mins_trk (Pt.ok_of_err hr) (rises_pair (Pt.err_ok hr).2.2.1) ht).walks (Pt.ok_of_err hr)).eq hr
def dartsAt (g:Gr) (p:Pt) (v:Int):List Int:=p.darts.filter fun d=>decide (g.tail d=v)
theorem mem_dartsAt {g:Gr} {p:Pt} {v d:Int}:d∈dartsAt g p v↔d∈p.darts∧g.tail d=v:=by simp[dartsAt]
theorem dartsAt_nodup {g:Gr} {p:Pt} (h:p.e.Nodup) (v:Int):(dartsAt g p v).Nodup:=(darts_nodup h).filter _
def rowOk (g:Gr) (p:Pt) (turn:List (List Int)) (v:Int):Prop:=(dartsAt g p v).length=(turnAt turn v).length∧(turnAt turn v).Nodup∧∀ d∈dartsAt g p v,d∈turnAt turn v
theorem perm_of_sub {l m:List Int} (hl:l.Nodup) (h:∀ x∈l,x∈m) (hlen:l.length=m.length):∀ x∈m,x∈l:=by
 intro x hx
 refine Classical.byContradiction fun q=>?_
 have h1:=len_le_of_sub (l:=x :: l) (m:=m) (List.nodup_cons.2 ⟨q,hl⟩) (fun y hy=>by rcases List.mem_cons.1 hy with r | r;exact r ▸ hx;exact h y r)
 simp at h1
 omega
theorem turns_of_rows {g:Gr} {p:Pt} {turn:List (List Int)} (hp:PartOk g p) (hl:(turn.length:Int)=g.n) (h:∀ v:Nat,(v:Int)<g.n→Plain.rowOk g p turn v):TurnsOk g p turn:=by
 have hrow:∀ v:Int,0≤v→v<g.n→Plain.rowOk g p turn v:=fun v h0 hn=>by
  have:=h v.toNat (by omega)
  rwa[show ((v.toNat:Nat):Int)=v by omega] at this
 refine⟨hl,fun v=>?_,fun v h0 hn d=>?_⟩
 ·by_cases h1:v.toNat<turn.length
  ·have:=(hrow (v.toNat:Nat) (by omega) (by omega)).2.1
   unfold turnAt at this ⊢
   rwa[Int.toNat_natCast] at this
  unfold turnAt
  rw[List.getD,List.getElem?_eq_none (by omega)]
  simp
 obtain⟨h1,-,h3⟩:=hrow v h0 hn
 rw[←mem_dartsAt]
 exact⟨fun hd=>perm_of_sub (dartsAt_nodup hp.en v) h3 h1 d hd,h3 d⟩
theorem Pt.edge_in {g:Gr} {p:Pt} (h:p.err g=0) {e:Int} (he:e∈p.e):0≤e∧e<g.e.length:=by
 obtain⟨i,hi,rfl⟩:=mem_getD he
 have:=rises_at (Pt.err_ok h).2.2.1 hi
 exact⟨this.1,this.2.1⟩
theorem Pt.dart_nat {g:Gr} {p:Pt} (h:p.err g=0) {d:Int} (hd:d∈p.darts):∃ n:Nat,d=n∧n / 2<g.e.length∧n<2048:=by
 have h1:=edge_in h (mem_darts.1 hd)
 have h2:=Gr.err_ok (Pt.err_ok h).1
 exact⟨d.toNat,by omega,by omega,by omega⟩
end Go.Proofs.YtkacjmoamgjfpaaGreat.Plain
namespace Go.Proofs.YtkacjmoamgjfpaaGreat
namespace Plain
def keysOk (ow:Int→Option Int) (l:List Int) (met:List Int) (k:Nat):Prop :=
 ∀ i,i<k→(ow (l.getD i 0)).isSome=true∧l.getD i 0 ∉ met++l.take i∧(0<i→l.getD (i - 1) 0<l.getD i 0)
instance (ow:Int→Option Int) (l met:List Int) (k:Nat):Decidable (keysOk ow l met k):=by unfold keysOk;infer_instance
structure Alike (n:Nat) (s:St) (grp:List Nat):Prop where
 ok:s.Ok
 all:s.all=upTo n
 len:grp.length=n
 same:∀ i j,i<n→j<n→(grp.getD i 0=grp.getD j 0↔s.hd i=s.hd j)
end Plain
end Go.Proofs.YtkacjmoamgjfpaaGreat
namespace Go.Proofs.YtkacjmoamgjfpaaGreat
open Go.RowKit Go.Maps
theorem row_lit1 {w:World} {B:Nat} (hB:B≤w.heap.size) {k:Int} (hk:I64 k):RowAt (w.alloc (.cells #[.int .i64 k] 3)) B (.slice (some ⟨w.heap.size,0,none⟩) 1 1) [k] :=
 ⟨World.ownsRow_lit w #[.int .i64 k] 1 hB (by decide) rfl,by simpa using hk,by simp⟩
theorem wl_push {ops:Array Oper} {rest:List Oper} {o:Oper} {a:Act} {Q:Exit→Act→World→Prop} {w w0:World} (hg:o.guard=none) (s x:Operand) (ho:o.op=.call { callee:=.builtin .append,args:=#[s,x],argTypes:=#[27,27] })
  {B:Nat} {v:Value} {l:List Int} {k:Int} (hs:a.eval s=v) (hx:a.eval x=.slice (some ⟨w0.heap.size,0,none⟩) 1 1) (h:RowAt w0 B v l) (hk:I64 k) (hB:B≤w0.heap.size) (hn:l.length<4294967290) (hw:w=w0.alloc (.cells #[.int .i64 k] 3))
  (hK:∀ v' w',RowAt w' B v' (l++[k])→Chg (foot v) w0 w'→(∀ b∈foot v',b∈foot v∨w0.heap.size≤b)→wpList Tryz.prog ops Q rest (a.put o.dst v') w'):wpList Tryz.prog ops Q (o :: rest) a w:=by
 subst hw
 have hc:=(Chg.refl [] w0).alloc (.cells #[.int .i64 k] 3)
 refine wl_cat hg s x ho hs hx (h.chg hc (by simp)) (row_lit1 (B:=w0.heap.size) (Nat.le_refl _) hk) (Nat.le_trans hB hc.size) (by simp;omega) fun v' w' r1 r2 r3=>hK v' w' r1 ((hc.mono (by simp)).trans r2 fun j hj=>Or.inl hj) fun b hb=>(r3 b hb).imp id fun q=>Nat.le_trans hc.size q
theorem IntsAt.cellAt {w:World} {ao:Option Addr} {n c:Nat} {l:List Int} (h:IntsAt w (.slice ao n c) l) {i:Nat} (hi:i<l.length):∃ b off,ao=some ⟨b,off,none⟩∧w.cell? ⟨b,off+i,none⟩=some (.int .i64 (l.getD i 0)):=by
 obtain⟨ao',c',e',-,-,h⟩:=h
 simp only[Value.slice.injEq] at e'
 obtain⟨rfl,-,rfl⟩:=e'
 obtain⟨b,off,rfl,h2⟩:=h (by intro q;rw[q] at hi;simp at hi)
 exact⟨b,off,rfl,h2 i hi⟩
theorem RowsAt.row {w:World} {tno:Option Addr} {n tc:Nat} {ll:List (List Int)} (h:RowsAt w (.slice tno n tc) ll) {k:Nat} (hk:k<ll.length):∃ b off uo uc,tno=some ⟨b,off,none⟩∧w.cell? ⟨b,off+k,none⟩=some (.slice uo (ll.getD k []).length uc)∧IntsAt w (.slice uo (ll.getD k []).length uc) (ll.getD k []):=by
 obtain⟨ao,cap,e,-,h2⟩:=h
 simp only[Value.slice.injEq] at e
 obtain⟨rfl,rfl,rfl⟩:=e
 obtain⟨b,off,u,rfl,h3,-,h5⟩:=h2 k hk
 have h6:=h5
 obtain⟨uo,uc,rfl,-⟩:=h5
 exact⟨b,off,uo,uc,rfl,h3,h6⟩
theorem rowNil' (w:World) (B:Nat):RowAt w B (.slice none 0 0) []:=⟨World.ownsRow_nil _ _ _ _,by simp,by simp⟩
end Go.Proofs.YtkacjmoamgjfpaaGreat
namespace Go.Proofs.YtkacjmoamgjfpaaGreat
open Go.RowKit Go.Maps
end Go.Proofs.YtkacjmoamgjfpaaGreat
