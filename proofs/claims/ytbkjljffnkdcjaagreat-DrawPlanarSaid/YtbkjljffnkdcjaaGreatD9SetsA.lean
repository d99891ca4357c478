/- package sets: what an object is in memory; contracts of can, put, root. Conditions: an object that stands in memory; any int. -/
import Derived.Test.YtbkjljffnkdcjaaGreatD9Euler
open Go.Value renaming ownBlock→Qa,int→Qd,slice→Qr
open Or renaming inl→Qb,inr→Qg
open List renaming mem_append→Qc,length_append→Qe,length_cons→Qh,length_set→Qi,length_nil→Qj,mem_nil_iff→Qm,map_append→Qn,map_cons→Qo,mem_cons→Qp,map_nil→Qq
open Go.World renaming cell?→Qf
open Nat renaming le_trans→Qk,zero_add→Ql,zero_le→Qt
open Option renaming some→Qs
namespace Go.Proofs.YtbkjljffnkdcjaaGreat
open Go.RowKit Go.Maps
structure aW (w:World) (pb mb:Nat) (tv uv:Value) (up:List Nat) (s:St):Prop where
 cells:w.heap[pb]?=some (.cells #[.map (some mb),tv,uv,.int .i64 s.count] 174 (0,0))
 map:bN w mb s.all.length (pos s.all)
 eD:w.ownsRow 0 3 1 tv s.all.length (s.all.map (Qd .i64))
 E6:w.ownsRow 0 3 1 uv up.length (up.map fun (k:Nat)=>.int .i64 (k:Int))
 apart:tv.ownBlock=none\/tv.ownBlock≠uv.ownBlock
 up:Up up s.dp
 len:s.all.length=s.dp.length
 nodup:s.all.Nodup
 small:∀ x∈s.all,bn x
def aW.blocks (pb mb:Nat) (tv uv:Value):List Nat:=[pb,mb]++tv.ownBlock.toList++uv.ownBlock.toList
def cF (w:World) (pb:Nat) (own:List Nat) (s:St):Prop:=∃ mb tv uv up,aW w pb mb tv uv up s/\own=aW.blocks pb mb tv uv
theorem bE {w w':World} {own:List Nat} {v:Value} {n:Nat} {xs:List Value} {e:TypeId} {size base:Nat} (h:w.ownsRow base e size v n xs) (hc:ai own w w') (hn:∀ b,v.ownBlock=some b->b ∉ own):w'.ownsRow base e size v n xs:=by
 obtain⟨h1,h2⟩:=h;refine⟨h1,?_⟩;rcases h2 with h2 | ⟨g,cap,cur,hv,hg,hh,r⟩
 ·exact Qb h2
 exact Qg ⟨g,cap,cur,hv,hg,hc.heap hh (hn g (by rw[hv];rfl)),r⟩
theorem cM {w:World} {v:Value} {n:Nat} {xs:List Value} {e:TypeId} {size base:Nat} (h:w.ownsRow base e size v n xs):∃ ao cap,v=.slice ao n cap:=by
 rcases h.2 with ⟨rfl,rfl⟩ | ⟨g,cap,_,rfl,_⟩
 ·exact⟨_,_,rfl⟩
 exact⟨_,_,rfl⟩
theorem cN {w:World} {v:Value} {n:Nat} {xs:List Value} {e:TypeId} {size base:Nat} (h:w.ownsRow base e size v n xs) (hn:0<n):∃ g cap,v=.slice (some ⟨g,0,none⟩) n cap:=by
 rcases h.2 with ⟨rfl,rfl⟩ | ⟨g,cap,_,rfl,_⟩
 ·omega
 exact⟨_,_,rfl⟩
theorem aW.aM {w w':World} {own:List Nat} {pb mb:Nat} {tv uv:Value} {up:List Nat} {s:St} (h:aW w pb mb tv uv up s) (hc:ai own w w') (hn:∀ b∈aW.blocks pb mb tv uv,b ∉ own):aW w' pb mb tv uv up s :=
 ⟨hc.heap h.cells (hn pb (by simp[aW.blocks])),h.map.aM hc (hn mb (by simp[aW.blocks])),bE h.eD hc (fun b hb=>hn b (by simp[aW.blocks,hb])),bE h.E6 hc (fun b hb=>hn b (by simp[aW.blocks,hb])),h.apart,h.up,h.len,h.nodup,h.small⟩
theorem Oy (p:Addr) (x:Bool) (w:World) (hc:w.cell? p=some (.bool x)) (hz:w.frozen? p=false) :
  CallsD Tryz.prog 177 #[.pointer (some p)] .returning w fun e u' w'=>e=.returned (.tuple #[])/\u'=.returning/\w'=w.setCell p (.bool true):=by
 refine callsD_of_wpS Tryz.func177 rfl fun aoe cs hu=>?_;apply wpS_region;simp[wpOpsS,go_sem,recoverD,hu,Tryz.ntmps177,hc,hz,bodyPostS,results,Tryz.results177];cases aoe
 simp_all
theorem BZ (pb:Nat) (own:List Nat) (s:St) (x:Int) (w:World) (hx:bn x) (h:cF w pb own s) :
  Calls Tryz.prog 146 #[.pointer (some ⟨pb,0,none⟩),.int .i64 x] w fun e w'=>e=.returned (.bool true)/\ai [] w w':=by
 have hmf:∀ (fn:Fn) (first cap:Array Value) (w:World),(Instr.makeFunc fn first cap).run Tryz.prog w=.ok (.func fn first cap) w:=fun _ _ _ _=>rfl;obtain⟨mb,tv,uv,up,h,-⟩:=h;have hc:=h.cells;have gy:w.cell? ⟨pb,0,none⟩=some (.map (some mb)):=by simp[Qf,hc]
 have aU:=lt_of_block hc;have hm:=h.map;clear hc
 go_enter_defers Tryz.func146,Tryz.ntmps146
 go_wp2_with (at_lookup;refine kd _ rfl _ _ rfl (hm.alloc _) rfl hx rfl (v:=_) (lh rfl) ?_)
 refine leaves_cons (f:=177) (args:=#[.pointer (some ⟨w.heap.size,0,none⟩)]) (by simp) (by simp[go_sem]) ?_;refine (Oy ⟨w.heap.size,0,none⟩ true _ ?_ ?_).mono ?_
 ·simp[go_sem]
 ·simp[go_sem]
 rintro e u' w'' ⟨rfl,rfl,rfl⟩;simp[Leaves,settle,results,Tryz.results146,go_sem];exact (ai.refl [] w).alloc _
theorem aW.c0 {w:World} {pb mb:Nat} {tv uv:Value} {up:List Nat} {s:St} (h:aW w pb mb tv uv up s):w.cell? ⟨pb,0,none⟩=some (.map (some mb)):=by simp[Qf,h.cells]
theorem aW.c1 {w:World} {pb mb:Nat} {tv uv:Value} {up:List Nat} {s:St} (h:aW w pb mb tv uv up s):w.cell? ⟨pb,1,none⟩=some tv:=by simp[Qf,h.cells]
theorem aW.c2 {w:World} {pb mb:Nat} {tv uv:Value} {up:List Nat} {s:St} (h:aW w pb mb tv uv up s):w.cell? ⟨pb,2,none⟩=some uv:=by simp[Qf,h.cells]
theorem aW.c3 {w:World} {pb mb:Nat} {tv uv:Value} {up:List Nat} {s:St} (h:aW w pb mb tv uv up s):w.cell? ⟨pb,3,none⟩=some (.int .i64 s.count):=by simp[Qf,h.cells]
theorem aW.free {w:World} {pb mb:Nat} {tv uv:Value} {up:List Nat} {s:St} (h:aW w pb mb tv uv up s) (i:Nat):w.frozen? ⟨pb,i,none⟩=false:=by simp[World.frozen?,h.cells]
theorem aW.wD {w:World} {pb mb g cap:Nat} {tv:Value} {up:List Nat} {n:Nat} {s:St} (h:aW w pb mb tv (.slice (some ⟨g,0,none⟩) n cap) up s) (hn:n=up.length) (i:Nat) (hi:i<up.length):w.cell? ⟨g,i,none⟩=some (.int .i64 ((up.getD i 0:Nat):Int)):=by
 subst hn;rw[h.E6.cellAt i (by omega)];simp[List.getD,hi]
theorem aW.G5 {w:World} {pb mb g cap:Nat} {tv:Value} {up:List Nat} {n:Nat} {s:St} (h:aW w pb mb tv (.slice (some ⟨g,0,none⟩) n cap) up s) (hn:n=up.length) (i:Nat):w.frozen? ⟨g,i,none⟩=false:=by
 subst hn;exact h.E6.frozenAt i
theorem aW.XZ {w:World} {pb mb g cap:Nat} {tv:Value} {up:List Nat} {n:Nat} {s:St} (h:aW w pb mb tv (.slice (some ⟨g,0,none⟩) n cap) up s):g≠pb/\g≠mb/\tv.ownBlock≠some g:=by
 rcases h.E6.2 with ⟨e,_⟩ | ⟨g',eS,cur,e,_,hg,_⟩
 ·simp at e
 simp only[Qr.injEq,Qs.injEq,Addr.mk.injEq,and_true] at e;obtain⟨rfl,rfl⟩:=e.1,e.2.2;refine⟨fun e=>?_,h.map.ne hg,fun e=>?_⟩
 ·rw[e,h.cells] at hg
  simp at hg
 rcases h.apart with q | q
 ·rw[e] at q;cases q
 exact q e
theorem aW.afm {w:World} {pb mb g cap:Nat} {tv:Value} {up:List Nat} {n:Nat} {s:St} (h:aW w pb mb tv (.slice (some ⟨g,0,none⟩) n cap) up s) (hn:n=up.length) (i v:Nat) (hu:Up (up.set i v) s.dp) :
  aW (w.setCell ⟨g,i,none⟩ (.int .i64 v)) pb mb tv (.slice (some ⟨g,0,none⟩) n cap) (up.set i v) s:=by
 obtain⟨n1,n2,n3⟩:=h.XZ;subst hn;have hs:=h.E6.stored i (.int .i64 v);have hg:=hs.2;refine⟨?_,h.map.kept hg (by simpa using Ne.symm n2),h.eD.kept hg (Qg n3),?_,h.apart,hu,h.len,h.nodup,h.small⟩
 ·rw[Below.heap_setCell _ _ _ _ (by simpa using Ne.symm n1)]
  exact h.cells
 have:=hs.1;rw[Qi,List.map_set];exact this
theorem aW.drew {w:World} {pb mb:Nat} {tv uv:Value} {up:List Nat} {s:St} (h:aW w pb mb tv uv up s):aW w.drew pb mb tv uv up s:=⟨h.cells,h.map,h.eD,h.E6,h.apart,h.up,h.len,h.nodup,h.small⟩
set_option maxHeartbeats 400000 in
theorem DG (pb mb g cap:Nat) (tv:Value) (up:List Nat) (s:St) (i:Nat) (w:World) (hi:i<up.length) (h:aW w pb mb tv (.slice (some ⟨g,0,none⟩) up.length cap) up s) :
  Calls Tryz.prog 148 #[.pointer (some ⟨pb,0,none⟩),.int .i64 i] w fun e w'=>e=.returned (.int .i64 (s.hd i))/\(∃ jX,jX.length=up.length/\aW w' pb mb tv (.slice (some ⟨g,0,none⟩) up.length cap) jX s/\jX.getD (s.hd i) 0=s.hd i)/\ai [g] w w':=by
 go_enter Tryz.func148,Tryz.ntmps148
 go_wp2
 go_loopw [1] (fun v wr=>∃ (j:Nat) (jX:List Nat),v=.int .i64 j/\j<up.length/\s.hd j=s.hd i/\jX.length=up.length/\aW wr pb mb tv (.slice (some ⟨g,0,none⟩) up.length cap) jX s/\ai [g] w wr) (fun v _=>(intOf v).toNat)
 case atStart=>exact⟨i,up,rfl,hi,rfl,rfl,h,ai.refl _ _⟩
 case round =>
  obtain⟨j,jX,rfl,hj,MR,DW,dN,dI⟩:=hrel;have c2:=dN.c2;have HU:=lh DW;have cj:=dN.wD DW.symm j (by omega);have fj:=dN.G5 DW.symm j;have hle:=(dN.up.2 j (by omega)).1;have ck:=dN.wD DW.symm (jX.getD j 0) (by omega);have HN:Hid (jX.getD j 0≠j->aW (wr.setCell ⟨g,j,none⟩ (.int .i64 ((jX.getD (jX.getD j 0) 0:Nat):Int))) pb mb tv (.slice (some ⟨g,0,none⟩) up.length cap) (jX.set j (jX.getD (jX.getD j 0) 0)) s):=fun e=>dN.afm DW.symm _ _ (dN.up.adW (by omega) e);have HL:Hid (jX.getD (jX.getD j 0) 0<=jX.getD j 0):=(dN.up.2 (jX.getD j 0) (by omega)).1;have HE:Hid (s.hd (jX.getD (jX.getD j 0) 0)=s.hd j):=(dN.up.next (by omega)).trans (dN.up.next (by omega));have HA:=lh dN;have HI:=lh MR;clear DW dN MR h hi;generalize jX.getD (jX.getD j 0) 0=m at *;generalize hk:jX.getD j 0=k at *;have HK:=lh hk;clear hk;by_cases e:k=j
  ·subst e
   clear ck;go_wp2;go_ret;have hk:s.hd k=k:=HA.out.up.fix (by have:=HU.out;omega) HK.out;exact⟨by rw[<-HI.out,hk];rfl,⟨jX,HU.out,HA.out,by rw[<-HI.out,hk];exact HK.out⟩,dI⟩
  have e2:(((k:Nat):Int) != ((j:Nat):Int))=true:=by rw[bne_iff_ne];omega
  have ZN:=HN.out e;clear HN;go_wp2
  go_region
  have A1:=ZN.drew;have B1:=(dI.setCell (p:=⟨g,j,none⟩) (by simp) (.int .i64 (m:Int))).drew;generalize (wr.setCell ⟨g,j,none⟩ (.int .i64 (m:Int))).drew=w2 at A1 B1 ⊢;have zH:up.length=(jX.set j m).length:=by rw[Qi];exact HU.out.symm
  have c2':=A1.c2;have cj':=A1.wD zH j (by omega);rw[ye _ _ _ _ (by have:=HU.out;omega),if_pos rfl] at cj';clear zH ZN;have HA2:=lh A1;clear A1 c2 cj fj ck;go_wp2
  go_roundw
  case rel=>exact⟨m,jX.set j m,rfl,by have:=HL.out;omega,by rw[HE.out,HI.out],by rw[Qi];exact HU.out,HA2.out,B1⟩
  case measure=>have:=HL.out;simp[intOf];omega
def mJ (w:World) (pb:Nat) (own:List Nat) (w':World) (s':St):Prop:=∃ lY,cF w' pb lY s'/\ai own w w'/\∀ j∈lY,j∈own\/w.heap.size<=j
theorem Uc (pb:Nat) (own:List Nat) (s:St) (x:Int) (w:World) (hx:bn x) (dM:x∈s.all) (h:cF w pb own s) :
  Calls Tryz.prog 147 #[.pointer (some ⟨pb,0,none⟩),.int .i64 x] w fun e w'=>e=.returned (.int .i64 ((s.all.idxOf x:Nat):Int))/\w=w':=by
 obtain⟨mb,tv,uv,up,h,-⟩:=h;have c0:=h.c0;have hm:=h.map;have hp:=lh (Om dM);clear h dM
 go_enter Tryz.func147,Tryz.ntmps147
 go_wp2_with (at_lookup;refine eT _ rfl _ _ rfl hm rfl hx rfl hp ?_)
 go_ret;exact⟨rfl,rfl⟩
theorem Bj {w:World} {g n cap:Nat} {xs:List Value} (h:w.ownsRow 0 3 1 (.slice (some ⟨g,0,none⟩) n cap) n xs) {b:Nat} {cs:Array Value} (hb:w.heap[b]?=some (.cells cs 174 (0,0))):g≠b:=by
 rcases h.2 with ⟨e,_⟩ | ⟨g',eS,cur,e,_,hg,_⟩
 ·simp at e
 simp only[Qr.injEq,Qs.injEq,Addr.mk.injEq,and_true] at e;obtain⟨rfl,rfl⟩:=e.1,e.2.2;intro e;rw[e,hb] at hg;simp at hg
theorem Tg {pb mb:Nat} {tv uv:Value} {up:List Nat} {s:St} {w w1:World} (h:aW w pb mb tv uv up s) (hg:w.grownBy w1 (some mb)) :
  w1.heap[pb]?=some (.cells #[.map (some mb),tv,uv,.int .i64 s.count] 174 (0,0))/\w1.ownsRow 0 3 1 tv s.all.length (s.all.map (Qd .i64)) /\
   w1.ownsRow 0 3 1 uv up.length (up.map fun (k:Nat)=>.int .i64 (k:Int))/\ai [mb] w w1:=by
 have dI:ai [mb] w w1:=(ai.refl _ _).grown hg (by simp);have ne:∀ {v:Value} {n:Nat} {xs:List Value},w.ownsRow 0 3 1 v n xs->∀ b,v.ownBlock=some b->b ∉ [mb]:=by
  intro v n xs hv b hb;rcases hv.2 with ⟨rfl,_⟩ | ⟨g,cap,cur,rfl,_,hg,_⟩
  ·simp[Qa] at hb
  simp[Qa] at hb;subst hb;simpa using h.map.ne hg
 exact⟨dI.heap h.cells (by simpa using h.map.ne h.cells),bE h.eD dI (ne h.eD),bE h.E6 dI (ne h.E6),dI⟩
theorem Uz {pb mb:Nat} {tv uv:Value} {up:List Nat} {s:St} {w w1 w2:World} {f:Int->Option Int} {g1 nn n:Nat} {u:Value} (h:aW w pb mb tv uv up s)
  (hc:w1.heap[pb]?=some (.cells #[.map (some mb),tv,uv,.int .i64 s.count] 174 (0,0))) (_ht:w1.ownsRow 0 3 1 tv s.all.length (s.all.map (Qd .i64)))
  (hu:w1.ownsRow 0 3 1 uv up.length (up.map fun (k:Nat)=>.int .i64 (k:Int))) (hm:bN w1 mb n f) (CD:ai [mb] w w1)
  (ho:w2.ownsRow 0 3 1 (.slice (some ⟨g1,0,none⟩) (s.all.length+1) nn) (s.all.length+1) (s.all.map (Qd .i64)++[u])) (rY:ai tv.ownBlock.toList w1 w2) (hl:tv.ownBlock=some g1\/w1.heap.size<=g1) :
  w2.heap[pb]?=some (.cells #[.map (some mb),tv,uv,.int .i64 s.count] 174 (0,0)) /\
  (w2.setCell ⟨pb,1,none⟩ (.slice (some ⟨g1,0,none⟩) (s.all.length+1) nn)).ownsRow 0 3 1 uv up.length (up.map fun (k:Nat)=>.int .i64 (k:Int)) /\
  (w2.setCell ⟨pb,1,none⟩ (.slice (some ⟨g1,0,none⟩) (s.all.length+1) nn)).ownsRow 0 3 1 (.slice (some ⟨g1,0,none⟩) (s.all.length+1) nn) (s.all.length+1) (s.all.map (Qd .i64)++[u]) /\
  (w2.setCell ⟨pb,1,none⟩ (.slice (some ⟨g1,0,none⟩) (s.all.length+1) nn)).heap[pb]?=some (.cells #[.map (some mb),.slice (some ⟨g1,0,none⟩) (s.all.length+1) nn,uv,.int .i64 s.count] 174 (0,0)) /\
  bN (w2.setCell ⟨pb,1,none⟩ (.slice (some ⟨g1,0,none⟩) (s.all.length+1) nn)) mb n f /\
  ai (aW.blocks pb mb tv uv) w (w2.setCell ⟨pb,1,none⟩ (.slice (some ⟨g1,0,none⟩) (s.all.length+1) nn)) /\
  (tv.ownBlock=some g1\/w.heap.size<=g1)/\uv.ownBlock≠some g1:=by
 have pa:pb ∉ tv.ownBlock.toList:=by
  intro e;obtain⟨g,cap,cur,rfl,-,hg,-⟩:=h.eD.2.resolve_left (by rintro ⟨rfl,_⟩;simp[Qa] at e);simp[Qa] at e;rw[<-e,h.cells] at hg;simp at hg
 have Jy:mb ∉ tv.ownBlock.toList:=by
  intro e;obtain⟨g,cap,cur,rfl,-,hg,-⟩:=h.eD.2.resolve_left (by rintro ⟨rfl,_⟩;simp[Qa] at e);simp[Qa] at e;exact h.map.ne hg e.symm
 have hub:∀ b,uv.ownBlock=some b->b ∉ tv.ownBlock.toList:=by
  intro b hb e;rcases h.apart with q | q
  ·simp[q] at e
  simp at e;exact q (e.trans hb.symm)
 have bG:=rY.heap hc pa;have qM:pb≠mb:=h.map.ne h.cells;have hup:uv.ownBlock≠some pb:=by
  intro e;obtain⟨g,cap,cur,rfl,-,hg,-⟩:=h.E6.2.resolve_left (by rintro ⟨rfl,_⟩;simp[Qa] at e);simp[Qa] at e;rw[e,h.cells] at hg;simp at hg
 have ho':g1≠pb:=Bj ho bG;refine⟨bG,ownsRow_setCell_other (bE hu rY hub) hup _,ownsRow_setCell_other ho (by simpa[Qa] using ho') _,?_,?_,?_,?_,?_⟩
 ·rw[heap_setCell_same bG];rfl
 ·exact ((hm.aM rY Jy).aM ((ai.refl [pb] _).setCell (by simp) _) (by simpa using qM.symm))
 ·refine ((CD.mono (by simp[aW.blocks])).trans (rY.mono (lY:=aW.blocks pb mb tv uv) (fun j hj=>Qb (by simp only[aW.blocks,Qc];exact Qb (Qg hj)))) (fun j hj=>Qb hj)).setCell (by simp[aW.blocks]) _
 ·exact hl.imp id (fun q=>Qk CD.size q)
 intro e;rcases hl with q | q
 ·rcases h.apart with r | r
  ·rw[q] at r;cases r
  exact r (q.trans e.symm)
 have:=(hu.lt _ e).2;omega
theorem Lx {pb mb:Nat} {tv uv v1:Value} {up:List Nat} {s:St} {w w3 w4:World} {f:Int->Option Int} {g1 nn g2 qC n:Nat} {u u2:Value} (h:aW w pb mb tv uv up s) {c2:Prop}
  (hR:c2/\w3.ownsRow 0 3 1 uv up.length (up.map fun (k:Nat)=>.int .i64 (k:Int)) /\
   w3.ownsRow 0 3 1 (.slice (some ⟨g1,0,none⟩) (s.all.length+1) nn) (s.all.length+1) (s.all.map (Qd .i64)++[u]) /\
   w3.heap[pb]?=some (.cells #[.map (some mb),v1,uv,.int .i64 s.count] 174 (0,0))/\bN w3 mb n f/\ai (aW.blocks pb mb tv uv) w w3/\(tv.ownBlock=some g1\/w.heap.size<=g1)/\uv.ownBlock≠some g1)
  (ho:w4.ownsRow 0 3 1 (.slice (some ⟨g2,0,none⟩) (up.length+1) qC) (up.length+1) ((up.map fun (k:Nat)=>.int .i64 (k:Int))++[u2])) (dI:ai uv.ownBlock.toList w3 w4) (hl:uv.ownBlock=some g2\/w3.heap.size<=g2) :
  w4.heap[pb]?=some (.cells #[.map (some mb),v1,uv,.int .i64 s.count] 174 (0,0)) /\
  w4.ownsRow 0 3 1 (.slice (some ⟨g1,0,none⟩) (s.all.length+1) nn) (s.all.length+1) (s.all.map (Qd .i64)++[u]) /\
  w4.ownsRow 0 3 1 (.slice (some ⟨g2,0,none⟩) (up.length+1) qC) (up.length+1) ((up.map fun (k:Nat)=>.int .i64 (k:Int))++[u2]) /\
  bN w4 mb n f/\ai (aW.blocks pb mb tv uv) w w4/\(tv.ownBlock=some g1\/w.heap.size<=g1)/\(uv.ownBlock=some g2\/w.heap.size<=g2)/\g1≠g2:=by
 obtain⟨-,hu3,Fv,dB,hm3,abv,G7,hug⟩:=hR;have pa:pb ∉ uv.ownBlock.toList:=by
  intro e;obtain⟨g,cap,cur,rfl,-,hg,-⟩:=h.E6.2.resolve_left (by rintro ⟨rfl,_⟩;simp[Qa] at e);simp[Qa] at e;rw[<-e,h.cells] at hg;simp at hg
 have Jy:mb ∉ uv.ownBlock.toList:=by
  intro e;obtain⟨g,cap,cur,rfl,-,hg,-⟩:=h.E6.2.resolve_left (by rintro ⟨rfl,_⟩;simp[Qa] at e);simp[Qa] at e;exact h.map.ne hg e.symm
 refine⟨dI.heap dB pa,bE Fv dI (fun b hb e=>?_),ho,hm3.aM dI Jy,?_,G7,hl.imp id (fun q=>Qk abv.size q),?_⟩
 ·simp[Qa] at hb
  subst hb;simp at e;exact hug e
 ·exact abv.trans dI (fun j hj=>Qb (by simp only[aW.blocks,Qc];exact Qg hj))
 intro e;subst e;rcases hl with q | q
 ·exact hug q
 have:=(Fv.lt g1 rfl).2;omega
theorem Mu {pb mb:Nat} {tv uv:Value} {up:List Nat} {s:St} {w w6:World} {g1 nn g2 qC:Nat} {x:Int} (h:aW w pb mb tv uv up s) (hx:bn x) (dM:x ∉ s.all)
  (hc:w6.heap[pb]?=some (.cells #[.map (some mb),.slice (some ⟨g1,0,none⟩) (s.all.length+1) nn,.slice (some ⟨g2,0,none⟩) (up.length+1) qC,.int .i64 ((s.count:Int)+1)] 174 (0,0)))
  (hm:bN w6 mb (s.all.length+1) (fun y=>if y=x then some (s.all.length:Int) else pos s.all y))
  (ht:w6.ownsRow 0 3 1 (.slice (some ⟨g1,0,none⟩) (s.all.length+1) nn) (s.all.length+1) (s.all.map (Qd .i64)++[.int .i64 x]))
  (hu:w6.ownsRow 0 3 1 (.slice (some ⟨g2,0,none⟩) (up.length+1) qC) (up.length+1) ((up.map fun (k:Nat)=>.int .i64 (k:Int))++[.int .i64 ((s.all.length:Nat):Int)]))
  (bh:g1≠g2) (G7:tv.ownBlock=some g1\/w.heap.size<=g1) (Cp:uv.ownBlock=some g2\/w.heap.size<=g2)
  (dI:ai (aW.blocks pb mb tv uv) w w6):mJ w pb (aW.blocks pb mb tv uv) w6 (s.put x):=by
 have hl:up.length=s.all.length:=by rw[h.up.1,h.len]
 have jd:=St.MN dM h.len;rw[St.eH dM] at jd ⊢;refine⟨_,⟨mb,.slice (some ⟨g1,0,none⟩) (s.all.length+1) nn,.slice (some ⟨g2,0,none⟩) (up.length+1) qC,up++[up.length],⟨?_,?_,?_,?_,?_,?_,?_,?_,?_⟩,rfl⟩,dI,?_⟩
 ·rw[jd];exact_mod_cast hc
 ·simp only[Qe,Qh,Qj,Ql]
  rw[<-Oh dM];exact hm
 ·simp only[Qe,Qh,Qj,Ql,Qn,Qo,Qq]
  exact ht
 ·simp only[Qe,Qh,Qj,Ql,Qn,Qo,Qq]
  rw[hl] at hu ⊢;exact hu
 ·exact Qg (by simpa[Qa] using bh)
 ·have:=h.up.put
  rw[<-h.len] at this;exact this
 ·simp[h.len]
 ·exact List.nodup_append.2 ⟨h.nodup,by simp,fun a ha b hb=>by simp at hb;subst hb;intro e;subst e;exact dM ha⟩
 ·intro y hy
  rcases Qc.1 hy with q | q
  ·exact h.small y q
  simp at q;subst q;exact hx
 intro j hj;simp only[aW.blocks,Qc,Qp,Qa,Option.toList,Qm,or_false] at hj;simp only[aW.blocks,Qc,Qp,Qm,or_false];rcases hj with ((q | q) | q) | q
 ·exact Qb (Qb (Qb (Qb q)))
 ·exact Qb (Qb (Qb (Qg q)))
 ·subst q
  rcases G7 with q | q
  ·exact Qb (Qb (Qg (by simp[q])))
  exact Qg q
 subst q;rcases Cp with q | q
 ·exact Qb (Qg (by simp[q]))
 exact Qg q
set_option maxHeartbeats 400000 in
theorem NI (pb:Nat) (own:List Nat) (s:St) (x:Int) (w:World) (hx:bn x) (dM:x ∉ s.all) (hn:s.all.length<34359738368) (h:cF w pb own s) :
  Calls Tryz.prog 147 #[.pointer (some ⟨pb,0,none⟩),.int .i64 x] w fun e w'=>e=.returned (.int .i64 (s.all.length:Int))/\mJ w pb own w' (s.put x):=by
 obtain⟨mb,tv,uv,up,h,rfl⟩:=h;obtain⟨ao,zg,rfl⟩:=cM h.eD;have c0:=h.c0;have c1:=h.c1;have c2:=h.c2;have c3:=h.c3;have f1:=h.free 1;have f2:=h.free 2;have f3:=h.free 3;have hm:=h.map;have hp:=lh (PA dM);have DW:up.length=s.all.length:=by rw[h.up.1,h.len]
 have ma:=s.count_le;have Fo:=h.len;have oY:s.count<=34359738368:=by omega
 have hub:up.length<34359738368:=by omega
 clear ma;have HS:=lh Fo;have HU:=lh DW;have HH:=lh h;have HI:=lh dM;clear h Fo DW dM
 go_enter Tryz.func147,Tryz.ntmps147
 go_wp2_with (first
  | (at_lookup;refine dw _ rfl _ _ rfl hm rfl hx rfl hp ?_)
  | (at_mapUpdate;refine iG _ rfl _ _ _ rfl hm (by unfold maxLen;omega) rfl hx (v:=(s.all.length:Int)) (WalkArith.wf_i64 (by omega)) rfl rfl ?_;intro w1 mh G7;have R1:=Tg HH.out G7;clear G7 c0 c1 c2 c3 f1 f2 f3;have b8:=lh R1.1;obtain⟨c0,c1,c2,c3,f1,f2,f3⟩:=four R1.1;have ht1:=R1.2.1;have Ik:=R1.2.2.1;have CD:=R1.2.2.2;clear R1)
  | (at_builtin;refine wO rfl (.tmp 34) (.tmp 36) rfl rfl rfl (by simp) ht1 (Qt _) (by omega) ?_;intro g1 nn w2 MX rY EU;have R2:=Uz HH.out b8.out ht1 Ik mh CD MX rY EU;clear rY EU ht1 Ik mh CD c0 c1 c2 c3 f1 f2 f3;have y7:=lh R2;obtain⟨c0,c1,c2,c3,f1,f2,f3⟩:=four R2.1;clear R2)
  | (at_builtin;refine wO rfl (.tmp 44) (.tmp 46) rfl rfl rfl (by simp) y7.out.2.1 (Qt _) (by omega) ?_;intro g2 qC w4 Es agl zH;have R4:=Lx HH.out y7.out Es agl zH;clear Es agl zH c0 c1 c2 c3 f1 f2 f3;have Cn:=lh R4;obtain⟨c0,c1,c2,c3,f1,f2,f3⟩:=four R4.1;clear R4))
 go_ret;have R:=Cn.out;have n1:=Bj R.2.1 R.1;have n2:=Bj R.2.2.1 R.1;have hc:=((ai.refl [pb] w4).setCell (p:=⟨pb,2,none⟩) (by simp) (.slice (some ⟨g2,0,none⟩) (up.length+1) qC)).setCell (p:=⟨pb,3,none⟩) (by simp) (.int .i64 ((s.count:Int)+1));refine⟨rfl,Mu (nn:=nn) (qC:=qC) HH.out hx HI.out ?_ ?_ ?_ ?_ R.2.2.2.2.2.2.2 R.2.2.2.2.2.1 R.2.2.2.2.2.2.1 ?_⟩
 ·rw[heap_setCell_same (heap_setCell_same R.1 _ _)];rfl
 ·exact R.2.2.2.1.aM hc (by simpa using (R.2.2.2.1.ne R.1).symm)
 ·exact bE R.2.1 hc (by simpa[Qa] using n1)
 ·exact bE R.2.2.1 hc (by simpa[Qa] using n2)
 exact R.2.2.2.2.1.trans hc (fun j hj=>Qb (by simp at hj;subst hj;simp[aW.blocks]))
theorem mJ.refl {w:World} {pb:Nat} {own:List Nat} {s:St} (h:cF w pb own s):mJ w pb own w s:=⟨own,h,ai.refl _ _,fun _ hj=>Qb hj⟩
theorem mJ.comp {a b c:World} {pb:Nat} {own NO:List Nat} {t:St} (h:ai own a b) (hs:∀ j∈NO,j∈own\/a.heap.size<=j) (k:mJ b pb NO c t):mJ a pb own c t:=by
 obtain⟨BF,k1,k2,k3⟩:=k;refine⟨BF,k1,h.trans k2 hs,fun j hj=>?_⟩;rcases k3 j hj with q | q
 ·exact hs j q
 exact Qg (Qk h.size q)
theorem mJ.behind {a b c:World} {pb:Nat} {own:List Nat} {t:St} (h:ai [] a b) (k:mJ b pb own c t):mJ a pb own c t:=mJ.comp (h.mono (by simp)) (fun _ hj=>Qb hj) k
theorem xr {l:List Int} {x:Int} (h:x ∉ l):(l++[x]).idxOf x=l.length:=by simp[List.idxOf_append,h]
theorem Bm (pb:Nat) (own:List Nat) (s:St) (x:Int) (w:World) (hx:bn x) (hn:s.all.length<34359738368) (h:cF w pb own s) :
  Calls Tryz.prog 147 #[.pointer (some ⟨pb,0,none⟩),.int .i64 x] w fun e w'=>e=.returned (.int .i64 (((s.put x).all.idxOf x:Nat):Int))/\mJ w pb own w' (s.put x):=by
 by_cases dM:x∈s.all
 ·rw[St.jo dM]
  exact (Uc pb own s x w hx dM h).mono fun e w' ⟨he,hw⟩=>⟨he,hw ▸ mJ.refl h⟩
 refine (NI pb own s x w hx dM hn h).mono fun e w' ⟨he,hw⟩=>⟨?_,hw⟩;rw[he,St.eH dM];simp only;rw[xr dM]
end Go.Proofs.YtbkjljffnkdcjaaGreat
