/- law 08's awake: true. -/
import Derived.Test.YtbkjljffnkdcjaaS9PlanR
import Derived.ProofKit
import Derived.OpenShut
import Derived.ChangeOld
import Derived.Deep.Strs
import Derived.Lib.SmallJoins
namespace Go.Proofs.Ytbkjljffnkdcjaa
open Go.RowKit Go.Maps
end Go.Proofs.Ytbkjljffnkdcjaa
namespace Go.Proofs.Ytbkjljffnkdcjaa
namespace Plain
end Plain
end Go.Proofs.Ytbkjljffnkdcjaa
namespace Go.Proofs.Ytbkjljffnkdcjaa
open Go.ChangeShapes Go.WideShapes Go.ChangeAt Go.RowKit Go.Deep Go.Joins
section
variable {H : Type} {enc : TypeId × Value → H} {w : World} {base : Nat} {held : Bool}
theorem cellsInt:Try.prog.cellsOf 3=1:=by kernel_rfl
theorem cellsRow:Try.prog.cellsOf 25=1:=by kernel_rfl
theorem cellsEdge:Try.prog.cellsOf 37=2:=by kernel_rfl
theorem ints_open {fuel:Nat} {u:Value} {x:DataW H × List MemPlace} (h:DataW.trod enc Try.prog w base (fun _=>true) held fuel 25 [u]=some x):∃ l,IntsAt w u l∧CapOk u:=by
 rcases open_ints Try.underlying25 Try.underlying3 cellsInt h with ⟨hcs,_⟩ | ⟨a,len',cap',zs,hcs,_,hl,hm,hz,_,hcell,hwz⟩
 ·simp at hcs
  subst hcs
  exact⟨[],IntsAt.nil w,none,0,0,rfl,by decide,by decide⟩
 simp at hcs
 subst hcs
 have hz':zs.length=cap':=by simpa using hz
 have hlen:(zs.take len').length=len':=by simp;omega
 unfold maxLen at hm
 refine⟨zs.take len',⟨some a,cap',by rw[hlen],fun y hy=>hwz y (List.mem_of_mem_take hy),by rw[hlen];omega,fun hne=>?_⟩,some a,len',cap',rfl,hl,by omega⟩
 obtain⟨b,off,rfl,hc⟩:=ints_at hcell (by
  rcases Nat.eq_zero_or_pos zs.length with q | q
  ·rw[List.length_eq_zero_iff.1 q] at hne;simp at hne
  exact q)
 refine⟨b,off,rfl,fun i hi=>?_⟩
 rw[hlen] at hi
 rw[hc i (by omega)]
 simp[List.getD,hi]
theorem rows_open {fuel:Nat} {u:Value} {x:DataW H × List MemPlace} (h:DataW.trod enc Try.prog w base (fun _=>true) held fuel 31 [u]=some x):∃ ll,RowsAt w u ll:=by
 rcases open_slice Try.underlying31 h with ⟨hcs,_⟩ | ⟨a,len',cap',m,n,D,Pl,hcs,_,hl,hm,hmm,_,hx⟩
 ·simp at hcs
  subst hcs
  exact⟨[],none,0,rfl,by decide,fun i hi=>absurd hi (by simp)⟩
 simp at hcs
 subst hcs
 simp only[if_true] at hmm
 subst hmm
 have each:∀ i,i<m→∃ l:List Int,∃ u,w.cell? (a.add (i*1))=some u∧IntsAt w u l∧CapOk u:=by
  intro i hi
  obtain⟨cs',hc,ht⟩:=hx i hi
  rw[cellsRow] at hc
  obtain⟨_,hlen,hat⟩:=World.cells?_some hc
  match cs',hlen with
  | [c0],_ =>
   obtain⟨l,h1,h2⟩:=ints_open ht
   refine⟨l,c0,?_,h1,h2⟩
   have:=hat 0 (by omega);rw[add_add] at this;simpa using this
 obtain⟨f,hf⟩:=choose_lt each
 unfold maxLen at hm
 refine⟨(List.range len').map f,some a,m,by simp,by simp;omega,fun i hi=>?_⟩
 have hi:i<len':=by simpa using hi
 obtain⟨u,k0,k1,k2⟩:=hf i (by omega)
 obtain⟨b,off,spot⟩:=a
 have hs:spot=none:=by
  obtain⟨u0,z0,-⟩:=hf 0 (by omega)
  have:=World.cell?_spot z0
  simpa[Addr.add] using this
 subst hs
 refine⟨b,off,u,rfl,?_,k2,by simpa[List.getD,hi] using k1⟩
 have:=k0
 rw[add_plain] at this
 simpa using this
set_option maxRecDepth 100000 in
theorem gr_open {r:Reach} {b0:Nat} {v:Value} {d:DataW H} {p:List MemPlace} (hv:Value.okWide Try.prog w r b0 24 v) (h:DataW.Trod enc Try.prog w base (fun _=>true) held 24 v d p):∃ g,GrAt w v g:=by
 obtain⟨c0,c1,y0,y1,n,rfl,-,-,h0,h1⟩:=open_agg2 Try.underlying24 (by kernel_rfl) (by kernel_rfl) hv h
 obtain⟨N,e0,_,w0⟩:=DataW.trod_int Try.underlying3 h0
 simp at e0
 subst e0
 rcases open_slice Try.underlying22 h1 with ⟨hcs,_⟩ | ⟨a,len',cap',m,n',D,Pl,hcs,_,hl,hm,hmm,_,hx⟩
 ·simp at hcs
  subst hcs
  exact⟨⟨N,[]⟩,none,0,rfl,w0,Nat.zero_le _,fun i hi=>absurd hi (by simp),fun i hi=>absurd hi (by simp)⟩
 simp at hcs
 subst hcs
 simp only[if_true] at hmm
 subst hmm
 have each:∀ i,i<m→∃ y:Int × Int,(I64 y.1∧I64 y.2)∧w.cell? (a.add (i*2))=some (.int .i64 y.1)∧w.cell? (a.add (i*2+1))=some (.int .i64 y.2):=by
  intro i hi
  obtain⟨cs',hc,ht⟩:=hx i hi
  rw[cellsEdge] at hc
  obtain⟨_,hlen,hat⟩:=World.cells?_some hc
  obtain⟨y0,y1,n',_,_,k0,k1⟩:=trod_struct2 Try.underlying37 ht
  match cs',hlen with
  | [c0,c1],_ =>
   simp only[cellsInt,List.drop_zero,List.drop_succ_cons,List.take_succ_cons,List.take_zero] at k0 k1
   obtain⟨x0,e0,_,q0⟩:=DataW.trod_int Try.underlying3 k0
   obtain⟨x1,e1,_,q1⟩:=DataW.trod_int Try.underlying3 k1
   simp at e0 e1
   subst e0 e1
   refine⟨(x0,x1),⟨q0,q1⟩,?_,?_⟩
   ·have:=hat 0 (by omega);rw[add_add] at this;simpa using this
   have:=hat 1 (by omega);rw[add_add] at this;simpa using this
 obtain⟨f,hf⟩:=choose_lt each
 unfold maxLen at hm
 have hg:∀ i,i<len'→((List.range len').map f).getD i (0,0)=f i:=fun i hi=>by simp[List.getD,hi]
 refine⟨⟨N,(List.range len').map f⟩,some a,m,by simp,w0,by simp;omega,fun i hi=>?_,fun i hi=>?_⟩
 ·have hi:i<len':=by simpa using hi
  show I64 (((List.range len').map f).getD i (0,0)).1∧I64 (((List.range len').map f).getD i (0,0)).2
  rw[hg i hi]
  exact (hf i (by omega)).1
 have hi:i<len':=by simpa using hi
 obtain⟨_,k0,k1⟩:=hf i (by omega)
 obtain⟨b,off,spot⟩:=a
 have hs:spot=none:=by
  have:=World.cell?_spot (hf 0 (by omega)).2.1
  simpa[Addr.add] using this
 subst hs
 refine⟨b,off,rfl,?_,?_⟩
 ·show _=some (Value.int .i64 (((List.range len').map f).getD i (0,0)).1)
  rw[hg i hi,←add_plain];exact k0
 show _=some (Value.int .i64 (((List.range len').map f).getD i (0,0)).2)
 rw[hg i hi,Nat.add_assoc,←add_plain];exact k1
set_option maxRecDepth 100000 in
theorem pt_open {r:Reach} {b0:Nat} {v:Value} {d:DataW H} {p:List MemPlace} (hv:Value.okWide Try.prog w r b0 27 v) (h:DataW.Trod enc Try.prog w base (fun _=>true) held 27 v d p):∃ g,PtAt w v g:=by
 obtain⟨c0,c1,y0,y1,n,rfl,-,-,h0,h1⟩:=open_agg2 Try.underlying27 (by kernel_rfl) (by kernel_rfl) hv h
 obtain⟨l0,k0,-⟩:=ints_open h0
 obtain⟨l1,k1,-⟩:=ints_open h1
 exact⟨⟨l0,l1⟩,c0,c1,rfl,k0,k1⟩
end
end Go.Proofs.Ytbkjljffnkdcjaa
namespace Go.Proofs.Ytbkjljffnkdcjaa
open Go.RowKit Go.Maps
end Go.Proofs.Ytbkjljffnkdcjaa
namespace Go.Proofs.Ytbkjljffnkdcjaa
open Go.RowKit Go.Maps
end Go.Proofs.Ytbkjljffnkdcjaa
namespace Go.Proofs.Ytbkjljffnkdcjaa
open Go.RowKit Go.Maps
namespace Plain
end Plain
namespace Plain
end Plain
end Go.Proofs.Ytbkjljffnkdcjaa
namespace Go.Proofs.Ytbkjljffnkdcjaa.Plain
theorem rings_next {g:Gr} {p:Pt} {turn:List (List Int)} (hp:PartOk g p) (ht:TurnsOk g p turn):∃ C,Rings (nextDart g turn) C∧C.flatten.Perm p.darts:=by
 obtain⟨h1,h2⟩:=before_rings ht hp.en hp.vn hp.vr
 have hA:=twin_rings hp.en
 have hl:leaving g p p.v=p.darts:=List.filter_eq_self.2 fun d hd=>decide_eq_true (hp.tail_mem hd).1
 have hd:(p.e.map fun e=>[2*e,2*e+1]).flatten=p.darts:=by rw[Pt.darts,List.flatMap_def]
 obtain⟨C,h,k,-⟩:=Rings.mul _ rfl h1 hA (by rw[hd,←hl];exact h2.symm)
 exact⟨C,h.congr fun x _=>rfl,by rw[hd] at k;exact k⟩
structure Cyc (g:Gr) (p:Pt) (turn:List (List Int)) (d:Int) (l:List Int):Prop where
 ring:Ring (nextDart g turn) (d :: l)
 nodup:(d :: l).Nodup
 sub:∀ x∈d :: l,x∈p.darts
theorem cyc_some {g:Gr} {p:Pt} {turn:List (List Int)} (hp:PartOk g p) (ht:TurnsOk g p turn) {d:Int} (hd:d∈p.darts):∃ l,Cyc g p turn d l:=by
 obtain⟨C,hC,hperm⟩:=rings_next hp ht
 obtain⟨c,hc,hdc⟩:=List.mem_flatten.1 (hperm.mem_iff.2 hd)
 obtain⟨l,hl,hlp⟩:=(hC.ring c hc).from hdc
 exact⟨l,hl,hlp.nodup_iff.2 ((nodup_flat.1 hC.nodup).1 c hc),fun x hx=>hperm.mem_iff.1 (List.mem_flatten.2 ⟨c,hc,hlp.mem_iff.1 hx⟩)⟩
theorem Cyc.one {g:Gr} {p:Pt} {turn:List (List Int)} {d:Int} {l m:List Int} (h:Cyc g p turn d l) (k:Cyc g p turn d m):l=m :=
 Trail.det (x:=d) h.ring k.ring (List.nodup_cons.1 h.nodup).1 (List.nodup_cons.1 k.nodup).1
theorem Cyc.turn {g:Gr} {p:Pt} {turn:List (List Int)} {d x:Int} {l:List Int} (h:Cyc g p turn d l) (hx:x∈d :: l):∃ m,Cyc g p turn x m∧(x :: m).Perm (d :: l):=by
 obtain⟨m,hm,hp⟩:=h.ring.from hx
 exact⟨m,⟨hm,hp.nodup_iff.2 h.nodup,fun y hy=>h.sub y (hp.mem_iff.1 hy)⟩,hp⟩
open Classical in
noncomputable def cycOf (g:Gr) (p:Pt) (turn:List (List Int)) (d:Int):List Int:=if h:∃ l,Cyc g p turn d l then Classical.choose h else []
theorem cycOf_ok {g:Gr} {p:Pt} {turn:List (List Int)} (hp:PartOk g p) (ht:TurnsOk g p turn) {d:Int} (hd:d∈p.darts):Cyc g p turn d (cycOf g p turn d):=by
 have h:=cyc_some hp ht hd
 unfold cycOf
 rw[dif_pos h]
 exact Classical.choose_spec h
noncomputable def minAt (g:Gr) (p:Pt) (turn:List (List Int)) (d:Int):Bool:=(cycOf g p turn d).all fun x=>decide (d<x)
noncomputable def minsTo (g:Gr) (p:Pt) (turn:List (List Int)) (k:Nat):List Face:=((p.darts.take k).filter (minAt g p turn)).map fun d=>(d,d :: cycOf g p turn d)
theorem min_of_mem {g:Gr} {p:Pt} {turn:List (List Int)} {f:Face} {k:Nat} (h:f∈minsTo g p turn k):f.1∈p.darts∧minAt g p turn f.1=true∧f.2=f.1 :: cycOf g p turn f.1:=by
 unfold minsTo at h
 obtain⟨d,hd,rfl⟩:=List.mem_map.1 h
 obtain⟨h1,h2⟩:=List.mem_filter.1 hd
 exact⟨(List.take_sublist _ _).subset h1,h2,rfl⟩
theorem mins_trk {g:Gr} {p:Pt} {turn:List (List Int)} (hp:PartOk g p) (hr:p.e.Pairwise (·<·)) (ht:TurnsOk g p turn):Trk g p turn (minsTo g p turn p.darts.length) p.darts:=by
 have hle:∀ f∈minsTo g p turn p.darts.length,∀ y∈f.2,f.1≤y:=by
  intro f hf y hy
  obtain⟨-,h2,h3⟩:=min_of_mem hf
  rw[h3] at hy
  rcases List.mem_cons.1 hy with q | q
  ·omega
  have:=List.all_eq_true.1 h2 y q
  simp at this;omega
 have hcy:∀ f∈minsTo g p turn p.darts.length,Cyc g p turn f.1 (cycOf g p turn f.1):=fun f hf=>cycOf_ok hp ht (min_of_mem hf).1
 have hkeys:((minsTo g p turn p.darts.length).map (·.1))=p.darts.filter (minAt g p turn):=by
  unfold minsTo
  rw[List.take_length,List.map_map]
  exact List.map_id' _
 have hdp:=darts_pair hr
 have hksub:((minsTo g p turn p.darts.length).map (·.1)).Sublist p.darts:=by rw[hkeys];exact List.filter_sublist
 have hone:∀ f∈minsTo g p turn p.darts.length,∀ f'∈minsTo g p turn p.darts.length,∀ y,y∈f.2→y∈f'.2→f.1=f'.1:=by
  intro f hf f' hf' y hy hy'
  have h3:=(min_of_mem hf).2.2
  have h3':=(min_of_mem hf').2.2
  rw[h3] at hy
  rw[h3'] at hy'
  obtain⟨m,hm,hmp⟩:=(hcy f hf).turn hy
  obtain⟨m',hm',hmp'⟩:=(hcy f' hf').turn hy'
  have:=hm.one hm'
  subst this
  have hperm:=hmp.symm.trans hmp'
  have h1:=hle f hf f'.1 (by rw[h3];exact hperm.mem_iff.2 (by simp))
  have h2:=hle f' hf' f.1 (by rw[h3'];exact hperm.mem_iff.1 (by simp))
  omega
 refine⟨⟨fun c hc=>?_,?_⟩,fun x hx=>?_,fun f hf=>⟨_,(min_of_mem hf).2.2⟩,hksub,fun f hf=>?_,fun x hx=>?_⟩
 ·obtain⟨f,hf,rfl⟩:=List.mem_map.1 hc
  rw[(min_of_mem hf).2.2]
  exact (hcy f hf).ring
 ·rw[nodup_flat]
  refine⟨fun l hl=>?_,?_⟩
  ·obtain⟨f,hf,rfl⟩:=List.mem_map.1 hl
   rw[(min_of_mem hf).2.2]
   exact (hcy f hf).nodup
  rw[List.pairwise_map]
  have hkp:(minsTo g p turn p.darts.length).Pairwise fun a b=>a.1<b.1:=by
   have:=hdp.sublist hksub
   rwa[List.pairwise_map] at this
  refine hkp.imp_of_mem ?_
  intro a b ha hb hab x hx y hy e
  subst e
  have:=hone a ha b hb x hx hy
  omega
 ·obtain⟨c,hc,hxc⟩:=List.mem_flatten.1 hx
  obtain⟨f,hf,rfl⟩:=List.mem_map.1 hc
  rw[(min_of_mem hf).2.2] at hxc
  exact (hcy f hf).sub x hxc
 ·obtain⟨a,b,e⟩:=List.append_of_mem (min_of_mem hf).1
  refine⟨a,b,e,fun y hy ha=>?_⟩
  have h1:=hle f hf y hy
  rw[e] at hdp
  have:=(List.pairwise_append.1 hdp).2.2 y ha f.1 (by simp)
  omega
 obtain⟨l,hl⟩:=cyc_some hp ht hx
 obtain⟨d,hd,hmin⟩:=exists_least (l:=x :: l) (by simp)
 obtain⟨m,hm,hmp⟩:=hl.turn hd
 have hdd:=hl.sub d hd
 have e:=(cycOf_ok hp ht hdd).one hm
 have hma:minAt g p turn d=true:=by
  unfold minAt
  rw[List.all_eq_true,e]
  intro y hy
  have h1:=hmin y (hmp.mem_iff.1 (by simp[hy]))
  have h2:d≠y:=fun q=>(List.nodup_cons.1 hm.nodup).1 (q ▸ hy)
  simp;omega
 refine List.mem_flatten.2 ⟨d :: cycOf g p turn d,List.mem_map.2 ⟨(d,d :: cycOf g p turn d),List.mem_map.2 ⟨d,List.mem_filter.2 ⟨by rw[List.take_length];exact hdd,hma⟩,rfl⟩,rfl⟩,?_⟩
 rw[e]
 exact hmp.mem_iff.2 (by simp)
theorem mins_walks {g:Gr} {p:Pt} {turn:List (List Int)} (hr:p.err g=0) (ht:TurnsOk g p turn):loneAt turn p.v++minsTo g p turn p.darts.length=walksOf g p turn :=
 ((mins_trk (Pt.ok_of_err hr) (rises_pair (Pt.err_ok hr).2.2.1) ht).walks (Pt.ok_of_err hr)).eq hr
end Go.Proofs.Ytbkjljffnkdcjaa.Plain
