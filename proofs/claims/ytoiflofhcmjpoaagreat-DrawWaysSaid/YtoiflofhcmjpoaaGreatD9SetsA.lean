/- package sets: what an object is in memory; contracts of can, put, root. Conditions: an object that stands in memory; any int. -/
import Derived.Test.YtoiflofhcmjpoaaGreatD9Perm
open Go.Value renaming ownBlock→Qa,int→Qb
open Go.World renaming cell?→Qc
open List renaming length_set→Qd,mem_append→Qg
open Nat renaming le_trans→Qe,zero_le→Qh
open Or renaming inl→Qf,inr→Qi
namespace Go.Proofs.YtoiflofhcmjpoaaGreat
open Go.RowKit Go.Maps
structure aM (w:World) (pb mb:Nat) (tv uv:Value) (up:List Nat) (s:St):Prop where
 cells:w.heap[pb]?=some (.cells #[.map (some mb),tv,uv,.int .i64 s.count] 173 (0,0))
 map:bK w mb s.all.length (pos s.all)
 eM:w.ownsRow 0 3 1 tv s.all.length (s.all.map (Qb .i64))
 CV:w.ownsRow 0 3 1 uv up.length (up.map fun (k:Nat)=>.int .i64 (k:Int))
 apart:tv.ownBlock=none\/tv.ownBlock≠uv.ownBlock
 up:Up up s.dx
 len:s.all.length=s.dx.length
 nodup:s.all.Nodup
 small:∀ x∈s.all,aU x
def aM.blocks (pb mb:Nat) (tv uv:Value):List Nat:=[pb,mb]++tv.ownBlock.toList++uv.ownBlock.toList
def cw (w:World) (pb:Nat) (own:List Nat) (s:St):Prop:=∃ mb tv uv up,aM w pb mb tv uv up s/\own=aM.blocks pb mb tv uv
theorem aY {w w':World} {own:List Nat} {v:Value} {n:Nat} {xs:List Value} {e:TypeId} {size base:Nat} (h:w.ownsRow base e size v n xs) (hc:ag own w w') (hn:∀ b,v.ownBlock=some b->b ∉ own):w'.ownsRow base e size v n xs:=by
 obtain⟨h1,h2⟩:=h;refine⟨h1,?_⟩;rcases h2 with h2 | ⟨g,cap,cur,hv,hg,hh,r⟩
 ·exact Qf h2
 exact Qi ⟨g,cap,cur,hv,hg,hc.heap hh (hn g (by rw[hv];rfl)),r⟩
theorem bk {w:World} {v:Value} {n:Nat} {xs:List Value} {e:TypeId} {size base:Nat} (h:w.ownsRow base e size v n xs):∃ ao cap,v=.slice ao n cap:=by
 rcases h.2 with ⟨rfl,rfl⟩ | ⟨g,cap,_,rfl,_⟩
 all_goals grind
theorem cD {w:World} {v:Value} {n:Nat} {xs:List Value} {e:TypeId} {size base:Nat} (h:w.ownsRow base e size v n xs) (hn:0<n):∃ g cap,v=.slice (some ⟨g,0,none⟩) n cap:=by
 rcases h.2 with ⟨rfl,rfl⟩ | ⟨g,cap,_,rfl,_⟩
 all_goals grind
theorem aM.aD {w w':World} {own:List Nat} {pb mb:Nat} {tv uv:Value} {up:List Nat} {s:St} (h:aM w pb mb tv uv up s) (hc:ag own w w') (hn:∀ b∈aM.blocks pb mb tv uv,b ∉ own):aM w' pb mb tv uv up s :=
 ⟨hc.heap h.cells (hn pb (by simp[aM.blocks])),h.map.aD hc (hn mb (by simp[aM.blocks])),aY h.eM hc (fun b hb=>hn b (by simp[aM.blocks,hb])),aY h.CV hc (fun b hb=>hn b (by simp[aM.blocks,hb])),h.apart,h.up,h.len,h.nodup,h.small⟩
theorem LA (p:Addr) (x:Bool) (w:World) (hc:w.cell? p=some (.bool x)) (hz:w.frozen? p=false) :
  CallsD Tryz.prog 183 #[.pointer (some p)] .returning w fun e u' w'=>e=.returned (.tuple #[])/\u'=.returning/\w'=w.setCell p (.bool true):=by
 refine callsD_of_wpS Tryz.func183 rfl fun ahJ cs hu=>?_;apply wpS_region;simp[wpOpsS,go_sem,recoverD,hu,Tryz.ntmps183,hc,hz,bodyPostS,results,Tryz.results183];cases ahJ
 simp_all
theorem zG (pb:Nat) (own:List Nat) (s:St) (x:Int) (w:World) (hx:aU x) (h:cw w pb own s) :
  Calls Tryz.prog 142 #[.pointer (some ⟨pb,0,none⟩),.int .i64 x] w fun e w'=>e=.returned (.bool true)/\ag [] w w':=by
 have hmf:∀ (fn:Fn) (first cap:Array Value) (w:World),(Instr.makeFunc fn first cap).run Tryz.prog w=.ok (.func fn first cap) w:=fun _ _ _ _=>rfl;obtain⟨mb,tv,uv,up,h,-⟩:=h;have hc:=h.cells;have gO:w.cell? ⟨pb,0,none⟩=some (.map (some mb)):=by simp[Qc,hc]
 have aL:=lt_of_block hc;have hm:=h.map;clear hc
 go_enter_defers Tryz.func142,Tryz.ntmps142
 go_wp2_with (at_lookup;refine iZ _ rfl _ _ rfl (hm.alloc _) rfl hx rfl (v:=_) (lh rfl) ?_)
 refine leaves_cons (f:=183) (args:=#[.pointer (some ⟨w.heap.size,0,none⟩)]) (by simp) (by simp[go_sem]) ?_;refine (LA ⟨w.heap.size,0,none⟩ true _ ?_ ?_).mono ?_
 ·simp[go_sem]
 ·simp[go_sem]
 rintro e u' w'' ⟨rfl,rfl,rfl⟩;simp[Leaves,settle,results,Tryz.results142,go_sem];exact (ag.refl [] w).alloc _
theorem aM.c0 {w:World} {pb mb:Nat} {tv uv:Value} {up:List Nat} {s:St} (h:aM w pb mb tv uv up s):w.cell? ⟨pb,0,none⟩=some (.map (some mb)):=by simp[Qc,h.cells]
theorem aM.c1 {w:World} {pb mb:Nat} {tv uv:Value} {up:List Nat} {s:St} (h:aM w pb mb tv uv up s):w.cell? ⟨pb,1,none⟩=some tv:=by simp[Qc,h.cells]
theorem aM.c2 {w:World} {pb mb:Nat} {tv uv:Value} {up:List Nat} {s:St} (h:aM w pb mb tv uv up s):w.cell? ⟨pb,2,none⟩=some uv:=by simp[Qc,h.cells]
theorem aM.c3 {w:World} {pb mb:Nat} {tv uv:Value} {up:List Nat} {s:St} (h:aM w pb mb tv uv up s):w.cell? ⟨pb,3,none⟩=some (.int .i64 s.count):=by simp[Qc,h.cells]
theorem aM.free {w:World} {pb mb:Nat} {tv uv:Value} {up:List Nat} {s:St} (h:aM w pb mb tv uv up s) (i:Nat):w.frozen? ⟨pb,i,none⟩=false:=by simp[World.frozen?,h.cells]
theorem aM.uw {w:World} {pb mb g cap:Nat} {tv:Value} {up:List Nat} {n:Nat} {s:St} (h:aM w pb mb tv (.slice (some ⟨g,0,none⟩) n cap) up s) (hn:n=up.length) (i:Nat) (hi:i<up.length):w.cell? ⟨g,i,none⟩=some (.int .i64 ((up.getD i 0:Nat):Int)):=by
 subst hn;rw[h.CV.cellAt i (by omega)]
 grind
theorem aM.Fu {w:World} {pb mb g cap:Nat} {tv:Value} {up:List Nat} {n:Nat} {s:St} (h:aM w pb mb tv (.slice (some ⟨g,0,none⟩) n cap) up s) (hn:n=up.length) (i:Nat):w.frozen? ⟨g,i,none⟩=false:=by
 subst hn;exact h.CV.frozenAt i
theorem aM.UT {w:World} {pb mb g cap:Nat} {tv:Value} {up:List Nat} {n:Nat} {s:St} (h:aM w pb mb tv (.slice (some ⟨g,0,none⟩) n cap) up s):g≠pb/\g≠mb/\tv.ownBlock≠some g:=by
 rcases h.CV.2 with ⟨e,_⟩ | ⟨g',eP,cur,e,_,hg,_⟩
 ·simp at e
 simp only[Value.slice.injEq,Option.some.injEq,Addr.mk.injEq,and_true] at e;obtain⟨rfl,rfl⟩:=e.1,e.2.2;refine⟨fun e=>?_,h.map.ne hg,fun e=>?_⟩
 ·rw[e,h.cells] at hg
  simp at hg
 rcases h.apart with q | q
 ·rw[e] at q;cases q
 exact q e
theorem aM.abw {w:World} {pb mb g cap:Nat} {tv:Value} {up:List Nat} {n:Nat} {s:St} (h:aM w pb mb tv (.slice (some ⟨g,0,none⟩) n cap) up s) (hn:n=up.length) (i v:Nat) (hu:Up (up.set i v) s.dx) :
  aM (w.setCell ⟨g,i,none⟩ (.int .i64 v)) pb mb tv (.slice (some ⟨g,0,none⟩) n cap) (up.set i v) s:=by
 obtain⟨n1,n2,n3⟩:=h.UT;subst hn;have hs:=h.CV.stored i (.int .i64 v);have hg:=hs.2;refine⟨?_,h.map.kept hg (by grind),h.eM.kept hg (Qi n3),?_,h.apart,hu,h.len,h.nodup,h.small⟩
 ·rw[Below.heap_setCell _ _ _ _ (by grind)]
  exact h.cells
 have:=hs.1;rw[Qd,List.map_set];exact this
theorem aM.drew {w:World} {pb mb:Nat} {tv uv:Value} {up:List Nat} {s:St} (h:aM w pb mb tv uv up s):aM w.drew pb mb tv uv up s:=⟨h.cells,h.map,h.eM,h.CV,h.apart,h.up,h.len,h.nodup,h.small⟩
set_option maxHeartbeats 400000 in
theorem CH (pb mb g cap:Nat) (tv:Value) (up:List Nat) (s:St) (i:Nat) (w:World) (hi:i<up.length) (h:aM w pb mb tv (.slice (some ⟨g,0,none⟩) up.length cap) up s) :
  Calls Tryz.prog 144 #[.pointer (some ⟨pb,0,none⟩),.int .i64 i] w fun e w'=>e=.returned (.int .i64 (s.hd i))/\(∃ iX,iX.length=up.length/\aM w' pb mb tv (.slice (some ⟨g,0,none⟩) up.length cap) iX s/\iX.getD (s.hd i) 0=s.hd i)/\ag [g] w w':=by
 go_enter Tryz.func144,Tryz.ntmps144
 go_wp2
 go_loopw [1] (fun v wr=>∃ (j:Nat) (iX:List Nat),v=.int .i64 j/\j<up.length/\s.hd j=s.hd i/\iX.length=up.length/\aM wr pb mb tv (.slice (some ⟨g,0,none⟩) up.length cap) iX s/\ag [g] w wr) (fun v _=>(intOf v).toNat)
 case atStart=>exact⟨i,up,rfl,hi,rfl,rfl,h,ag.refl _ _⟩
 case round =>
  obtain⟨j,iX,rfl,hj,DC,BO,dU,dV⟩:=hrel;have c2:=dU.c2;have HU:=lh BO;have cj:=dU.uw BO.symm j (by omega);have fj:=dU.Fu BO.symm j;have hle:=(dU.up.2 j (by omega)).1;have ck:=dU.uw BO.symm (iX.getD j 0) (by omega);have HN:Hid (iX.getD j 0≠j->aM (wr.setCell ⟨g,j,none⟩ (.int .i64 ((iX.getD (iX.getD j 0) 0:Nat):Int))) pb mb tv (.slice (some ⟨g,0,none⟩) up.length cap) (iX.set j (iX.getD (iX.getD j 0) 0)) s):=fun e=>dU.abw BO.symm _ _ (dU.up.aa7 (by omega) e);have HL:Hid (iX.getD (iX.getD j 0) 0<=iX.getD j 0):=(dU.up.2 (iX.getD j 0) (by omega)).1;have HE:Hid (s.hd (iX.getD (iX.getD j 0) 0)=s.hd j):=(dU.up.next (by omega)).trans (dU.up.next (by omega));have HA:=lh dU;have HI:=lh DC;clear BO dU DC h hi;generalize iX.getD (iX.getD j 0) 0=m at *;generalize hk:iX.getD j 0=k at *;have HK:=lh hk;clear hk;by_cases e:k=j
  ·subst e
   clear ck;go_wp2;go_ret;have hk:s.hd k=k:=HA.out.up.fix (by have:=HU.out;omega) HK.out;exact⟨by rw[<-HI.out,hk];rfl,⟨iX,HU.out,HA.out,by rw[<-HI.out,hk];exact HK.out⟩,dV⟩
  have e2:(((k:Nat):Int) != ((j:Nat):Int))=true:=by rw[bne_iff_ne];omega
  have Xy:=HN.out e;clear HN;go_wp2
  go_region
  have A1:=Xy.drew;have B1:=(dV.setCell (p:=⟨g,j,none⟩) (by simp) (.int .i64 (m:Int))).drew;generalize (wr.setCell ⟨g,j,none⟩ (.int .i64 (m:Int))).drew=w2 at A1 B1 ⊢;have Az:up.length=(iX.set j m).length:=by rw[Qd];exact HU.out.symm
  have c2':=A1.c2;have cj':=A1.uw Az j (by omega);rw[uH _ _ _ _ (by grind),if_pos rfl] at cj';clear Az Xy;have HA2:=lh A1;clear A1 c2 cj fj ck;go_wp2
  go_roundw
  case rel=>exact⟨m,iX.set j m,rfl,by have:=HL.out;omega,by rw[HE.out,HI.out],by rw[Qd];exact HU.out,HA2.out,B1⟩
  case measure=>have:=HL.out;simp[intOf];omega
def lq (w:World) (pb:Nat) (own:List Nat) (w':World) (s':St):Prop:=∃ gH,cw w' pb gH s'/\ag own w w'/\∀ j∈gH,j∈own\/w.heap.size<=j
theorem Sq (pb:Nat) (own:List Nat) (s:St) (x:Int) (w:World) (hx:aU x) (fp:x∈s.all) (h:cw w pb own s) :
  Calls Tryz.prog 143 #[.pointer (some ⟨pb,0,none⟩),.int .i64 x] w fun e w'=>e=.returned (.int .i64 ((s.all.idxOf x:Nat):Int))/\w=w':=by
 obtain⟨mb,tv,uv,up,h,-⟩:=h;have c0:=h.c0;have hm:=h.map;have hp:=lh (N8 fp);clear h fp
 go_enter Tryz.func143,Tryz.ntmps143
 go_wp2_with (at_lookup;refine eG _ rfl _ _ rfl hm rfl hx rfl hp ?_)
 go_ret;exact⟨rfl,rfl⟩
theorem zX {w:World} {g n cap:Nat} {xs:List Value} (h:w.ownsRow 0 3 1 (.slice (some ⟨g,0,none⟩) n cap) n xs) {b:Nat} {cs:Array Value} (hb:w.heap[b]?=some (.cells cs 173 (0,0))):g≠b:=by
 rcases h.2 with ⟨e,_⟩ | ⟨g',eP,cur,e,_,hg,_⟩
 all_goals grind
theorem S' {pb mb:Nat} {tv uv:Value} {up:List Nat} {s:St} {w w1:World} (h:aM w pb mb tv uv up s) (hg:w.grownBy w1 (some mb)) :
  w1.heap[pb]?=some (.cells #[.map (some mb),tv,uv,.int .i64 s.count] 173 (0,0))/\w1.ownsRow 0 3 1 tv s.all.length (s.all.map (Qb .i64)) /\
   w1.ownsRow 0 3 1 uv up.length (up.map fun (k:Nat)=>.int .i64 (k:Int))/\ag [mb] w w1:=by
 have dV:ag [mb] w w1:=(ag.refl _ _).grown hg (by simp);have ne:∀ {v:Value} {n:Nat} {xs:List Value},w.ownsRow 0 3 1 v n xs->∀ b,v.ownBlock=some b->b ∉ [mb]:=by
  intro v n xs hv b hb;rcases hv.2 with ⟨rfl,_⟩ | ⟨g,cap,cur,rfl,_,hg,_⟩
  ·simp[Qa] at hb
  simp[Qa] at hb;subst hb;simpa using h.map.ne hg
 exact⟨dV.heap h.cells (by simpa using h.map.ne h.cells),aY h.eM dV (ne h.eM),aY h.CV dV (ne h.CV),dV⟩
theorem SM {pb mb:Nat} {tv uv:Value} {up:List Nat} {s:St} {w w1 w2:World} {f:Int->Option Int} {g1 mh n:Nat} {u:Value} (h:aM w pb mb tv uv up s)
  (hc:w1.heap[pb]?=some (.cells #[.map (some mb),tv,uv,.int .i64 s.count] 173 (0,0))) (_ht:w1.ownsRow 0 3 1 tv s.all.length (s.all.map (Qb .i64)))
  (hu:w1.ownsRow 0 3 1 uv up.length (up.map fun (k:Nat)=>.int .i64 (k:Int))) (hm:bK w1 mb n f) (BW:ag [mb] w w1)
  (ho:w2.ownsRow 0 3 1 (.slice (some ⟨g1,0,none⟩) (s.all.length+1) mh) (s.all.length+1) (s.all.map (Qb .i64)++[u])) (qk:ag tv.ownBlock.toList w1 w2) (hl:tv.ownBlock=some g1\/w1.heap.size<=g1) :
  w2.heap[pb]?=some (.cells #[.map (some mb),tv,uv,.int .i64 s.count] 173 (0,0)) /\
  (w2.setCell ⟨pb,1,none⟩ (.slice (some ⟨g1,0,none⟩) (s.all.length+1) mh)).ownsRow 0 3 1 uv up.length (up.map fun (k:Nat)=>.int .i64 (k:Int)) /\
  (w2.setCell ⟨pb,1,none⟩ (.slice (some ⟨g1,0,none⟩) (s.all.length+1) mh)).ownsRow 0 3 1 (.slice (some ⟨g1,0,none⟩) (s.all.length+1) mh) (s.all.length+1) (s.all.map (Qb .i64)++[u]) /\
  (w2.setCell ⟨pb,1,none⟩ (.slice (some ⟨g1,0,none⟩) (s.all.length+1) mh)).heap[pb]?=some (.cells #[.map (some mb),.slice (some ⟨g1,0,none⟩) (s.all.length+1) mh,uv,.int .i64 s.count] 173 (0,0)) /\
  bK (w2.setCell ⟨pb,1,none⟩ (.slice (some ⟨g1,0,none⟩) (s.all.length+1) mh)) mb n f /\
  ag (aM.blocks pb mb tv uv) w (w2.setCell ⟨pb,1,none⟩ (.slice (some ⟨g1,0,none⟩) (s.all.length+1) mh)) /\
  (tv.ownBlock=some g1\/w.heap.size<=g1)/\uv.ownBlock≠some g1:=by
 have ph:pb ∉ tv.ownBlock.toList:=by
  intro e;obtain⟨g,cap,cur,rfl,-,hg,-⟩:=h.eM.2.resolve_left (by rintro ⟨rfl,_⟩;simp[Qa] at e);simp[Qa] at e;rw[<-e,h.cells] at hg;simp at hg
 have AQ:mb ∉ tv.ownBlock.toList:=by
  intro e;obtain⟨g,cap,cur,rfl,-,hg,-⟩:=h.eM.2.resolve_left (by rintro ⟨rfl,_⟩;simp[Qa] at e);simp[Qa] at e;exact h.map.ne hg e.symm
 have Y3:∀ b,uv.ownBlock=some b->b ∉ tv.ownBlock.toList:=by
  intro b hb e;rcases h.apart with q | q
  all_goals grind
 have bA:=qk.heap hc ph;have pF:pb≠mb:=h.map.ne h.cells;have hup:uv.ownBlock≠some pb:=by
  intro e;obtain⟨g,cap,cur,rfl,-,hg,-⟩:=h.CV.2.resolve_left (by rintro ⟨rfl,_⟩;simp[Qa] at e);simp[Qa] at e;rw[e,h.cells] at hg;simp at hg
 have ho':g1≠pb:=zX ho bA;refine⟨bA,ownsRow_setCell_other (aY hu qk Y3) hup _,ownsRow_setCell_other ho (by simpa[Qa] using ho') _,?_,?_,?_,?_,?_⟩
 ·rw[heap_setCell_same bA];rfl
 ·exact ((hm.aD qk AQ).aD ((ag.refl [pb] _).setCell (by simp) _) (by grind))
 ·refine ((BW.mono (by simp[aM.blocks])).trans (qk.mono (gH:=aM.blocks pb mb tv uv) (fun j hj=>Qf (by grind [aM.blocks]))) (fun j hj=>Qf hj)).setCell (by simp[aM.blocks]) _
 ·exact hl.imp id (fun q=>Qe BW.size q)
 intro e;rcases hl with q | q
 ·rcases h.apart with r | r
  ·rw[q] at r;cases r
  exact r (q.trans e.symm)
 have:=(hu.lt _ e).2;omega
theorem JX {pb mb:Nat} {tv uv v1:Value} {up:List Nat} {s:St} {w w3 w4:World} {f:Int->Option Int} {g1 mh g2 qg n:Nat} {u u2:Value} (h:aM w pb mb tv uv up s) {c2:Prop}
  (hR:c2/\w3.ownsRow 0 3 1 uv up.length (up.map fun (k:Nat)=>.int .i64 (k:Int)) /\
   w3.ownsRow 0 3 1 (.slice (some ⟨g1,0,none⟩) (s.all.length+1) mh) (s.all.length+1) (s.all.map (Qb .i64)++[u]) /\
   w3.heap[pb]?=some (.cells #[.map (some mb),v1,uv,.int .i64 s.count] 173 (0,0))/\bK w3 mb n f/\ag (aM.blocks pb mb tv uv) w w3/\(tv.ownBlock=some g1\/w.heap.size<=g1)/\uv.ownBlock≠some g1)
  (ho:w4.ownsRow 0 3 1 (.slice (some ⟨g2,0,none⟩) (up.length+1) qg) (up.length+1) ((up.map fun (k:Nat)=>.int .i64 (k:Int))++[u2])) (dV:ag uv.ownBlock.toList w3 w4) (hl:uv.ownBlock=some g2\/w3.heap.size<=g2) :
  w4.heap[pb]?=some (.cells #[.map (some mb),v1,uv,.int .i64 s.count] 173 (0,0)) /\
  w4.ownsRow 0 3 1 (.slice (some ⟨g1,0,none⟩) (s.all.length+1) mh) (s.all.length+1) (s.all.map (Qb .i64)++[u]) /\
  w4.ownsRow 0 3 1 (.slice (some ⟨g2,0,none⟩) (up.length+1) qg) (up.length+1) ((up.map fun (k:Nat)=>.int .i64 (k:Int))++[u2]) /\
  bK w4 mb n f/\ag (aM.blocks pb mb tv uv) w w4/\(tv.ownBlock=some g1\/w.heap.size<=g1)/\(uv.ownBlock=some g2\/w.heap.size<=g2)/\g1≠g2:=by
 obtain⟨-,hu3,Iz,cT,hm3,aan,H8,hug⟩:=hR;have ph:pb ∉ uv.ownBlock.toList:=by
  intro e;obtain⟨g,cap,cur,rfl,-,hg,-⟩:=h.CV.2.resolve_left (by rintro ⟨rfl,_⟩;simp[Qa] at e);simp[Qa] at e;rw[<-e,h.cells] at hg;simp at hg
 have AQ:mb ∉ uv.ownBlock.toList:=by
  intro e;obtain⟨g,cap,cur,rfl,-,hg,-⟩:=h.CV.2.resolve_left (by rintro ⟨rfl,_⟩;simp[Qa] at e);simp[Qa] at e;exact h.map.ne hg e.symm
 refine⟨dV.heap cT ph,aY Iz dV (fun b hb e=>?_),ho,hm3.aD dV AQ,?_,H8,hl.imp id (fun q=>Qe aan.size q),?_⟩
 ·simp[Qa] at hb
  grind
 ·exact aan.trans dV (fun j hj=>Qf (by grind [aM.blocks]))
 intro e;subst e;rcases hl with q | q
 ·exact hug q
 have:=(Iz.lt g1 rfl).2;omega
theorem Jr {pb mb:Nat} {tv uv:Value} {up:List Nat} {s:St} {w w6:World} {g1 mh g2 qg:Nat} {x:Int} (h:aM w pb mb tv uv up s) (hx:aU x) (fp:x ∉ s.all)
  (hc:w6.heap[pb]?=some (.cells #[.map (some mb),.slice (some ⟨g1,0,none⟩) (s.all.length+1) mh,.slice (some ⟨g2,0,none⟩) (up.length+1) qg,.int .i64 ((s.count:Int)+1)] 173 (0,0)))
  (hm:bK w6 mb (s.all.length+1) (fun y=>if y=x then some (s.all.length:Int) else pos s.all y))
  (ht:w6.ownsRow 0 3 1 (.slice (some ⟨g1,0,none⟩) (s.all.length+1) mh) (s.all.length+1) (s.all.map (Qb .i64)++[.int .i64 x]))
  (hu:w6.ownsRow 0 3 1 (.slice (some ⟨g2,0,none⟩) (up.length+1) qg) (up.length+1) ((up.map fun (k:Nat)=>.int .i64 (k:Int))++[.int .i64 ((s.all.length:Nat):Int)]))
  (bh:g1≠g2) (H8:tv.ownBlock=some g1\/w.heap.size<=g1) (Cz:uv.ownBlock=some g2\/w.heap.size<=g2)
  (dV:ag (aM.blocks pb mb tv uv) w w6):lq w pb (aM.blocks pb mb tv uv) w6 (s.put x):=by
 have hl:up.length=s.all.length:=by rw[h.up.1,h.len]
 have rA:=St.Iw fp h.len;rw[St.dX fp] at rA ⊢;refine⟨_,⟨mb,.slice (some ⟨g1,0,none⟩) (s.all.length+1) mh,.slice (some ⟨g2,0,none⟩) (up.length+1) qg,up++[up.length],⟨?_,?_,?_,?_,?_,?_,?_,?_,?_⟩,rfl⟩,dV,?_⟩
 ·grind
 ·grind [Na]
 ·grind
 ·grind
 ·exact Qi (by simpa[Qa] using bh)
 ·have:=h.up.put
  rw[<-h.len] at this;exact this
 ·simp[h.len]
 ·exact List.nodup_append.2 ⟨h.nodup,by simp,fun a ha b hb=>by grind⟩
 ·intro y hy
  rcases Qg.1 hy with q | q
  ·exact h.small y q
  all_goals grind
 intro j hj;simp only[aM.blocks,Qg,List.mem_cons,Qa,Option.toList,List.mem_nil_iff,or_false] at hj
 all_goals grind [aM.blocks]
set_option maxHeartbeats 400000 in
theorem MR (pb:Nat) (own:List Nat) (s:St) (x:Int) (w:World) (hx:aU x) (fp:x ∉ s.all) (hn:s.all.length<34359738368) (h:cw w pb own s) :
  Calls Tryz.prog 143 #[.pointer (some ⟨pb,0,none⟩),.int .i64 x] w fun e w'=>e=.returned (.int .i64 (s.all.length:Int))/\lq w pb own w' (s.put x):=by
 obtain⟨mb,tv,uv,up,h,rfl⟩:=h;obtain⟨ao,xh,rfl⟩:=bk h.eM;have c0:=h.c0;have c1:=h.c1;have c2:=h.c2;have c3:=h.c3;have f1:=h.free 1;have f2:=h.free 2;have f3:=h.free 3;have hm:=h.map;have hp:=lh (Mb fp);have BO:up.length=s.all.length:=by rw[h.up.1,h.len]
 have mm:=s.count_le;have AB:=h.len;have nt:s.count<=34359738368:=by omega
 have Y3:up.length<34359738368:=by omega
 clear mm;have HS:=lh AB;have HU:=lh BO;have HH:=lh h;have HI:=lh fp;clear h AB BO fp
 go_enter Tryz.func143,Tryz.ntmps143
 go_wp2_with (first
  | (at_lookup;refine di _ rfl _ _ rfl hm rfl hx rfl hp ?_)
  | (at_mapUpdate;refine gF _ rfl _ _ _ rfl hm (by unfold maxLen;omega) rfl hx (v:=(s.all.length:Int)) (WalkArith.wf_i64 (by omega)) rfl rfl ?_;intro w1 nT H8;have R1:=S' HH.out H8;clear H8 c0 c1 c2 c3 f1 f2 f3;have b8:=lh R1.1;obtain⟨c0,c1,c2,c3,f1,f2,f3⟩:=four R1.1;have YN:=R1.2.1;have Ex:=R1.2.2.1;have BW:=R1.2.2.2;clear R1)
  | (at_builtin;refine vF rfl (.tmp 34) (.tmp 36) rfl rfl rfl (by simp) YN (Qh _) (by omega) ?_;intro g1 mh w2 Cy qk Dv;have R2:=SM HH.out b8.out YN Ex nT BW Cy qk Dv;clear qk Dv YN Ex nT BW c0 c1 c2 c3 f1 f2 f3;have yH:=lh R2;obtain⟨c0,c1,c2,c3,f1,f2,f3⟩:=four R2.1;clear R2)
  | (at_builtin;refine vF rfl (.tmp 44) (.tmp 46) rfl rfl rfl (by simp) yH.out.2.1 (Qh _) (by omega) ?_;intro g2 qg w4 Ds abl Az;have R4:=JX HH.out yH.out Ds abl Az;clear Ds abl Az c0 c1 c2 c3 f1 f2 f3;have AG:=lh R4;obtain⟨c0,c1,c2,c3,f1,f2,f3⟩:=four R4.1;clear R4))
 go_ret;have R:=AG.out;have n1:=zX R.2.1 R.1;have n2:=zX R.2.2.1 R.1;have hc:=((ag.refl [pb] w4).setCell (p:=⟨pb,2,none⟩) (by simp) (.slice (some ⟨g2,0,none⟩) (up.length+1) qg)).setCell (p:=⟨pb,3,none⟩) (by simp) (.int .i64 ((s.count:Int)+1));refine⟨rfl,Jr (mh:=mh) (qg:=qg) HH.out hx HI.out ?_ ?_ ?_ ?_ R.2.2.2.2.2.2.2 R.2.2.2.2.2.1 R.2.2.2.2.2.2.1 ?_⟩
 ·rw[heap_setCell_same (heap_setCell_same R.1 _ _)];rfl
 ·exact R.2.2.2.1.aD hc (by simpa using (R.2.2.2.1.ne R.1).symm)
 ·exact aY R.2.1 hc (by simpa[Qa] using n1)
 ·exact aY R.2.2.1 hc (by simpa[Qa] using n2)
 exact R.2.2.2.2.1.trans hc (fun j hj=>Qf (by grind [aM.blocks]))
theorem lq.refl {w:World} {pb:Nat} {own:List Nat} {s:St} (h:cw w pb own s):lq w pb own w s:=⟨own,h,ag.refl _ _,fun _ hj=>Qf hj⟩
theorem lq.comp {a b c:World} {pb:Nat} {own NH:List Nat} {t:St} (h:ag own a b) (hs:∀ j∈NH,j∈own\/a.heap.size<=j) (k:lq b pb NH c t):lq a pb own c t:=by
 obtain⟨zw,k1,k2,k3⟩:=k;refine⟨zw,k1,h.trans k2 hs,fun j hj=>?_⟩;rcases k3 j hj with q | q
 ·exact hs j q
 exact Qi (Qe h.size q)
theorem lq.behind {a b c:World} {pb:Nat} {own:List Nat} {t:St} (h:ag [] a b) (k:lq b pb own c t):lq a pb own c t:=lq.comp (h.mono (by simp)) (fun _ hj=>Qf hj) k
theorem uq {l:List Int} {x:Int} (h:x ∉ l):(l++[x]).idxOf x=l.length:=by grind
theorem Aq (pb:Nat) (own:List Nat) (s:St) (x:Int) (w:World) (hx:aU x) (hn:s.all.length<34359738368) (h:cw w pb own s) :
  Calls Tryz.prog 143 #[.pointer (some ⟨pb,0,none⟩),.int .i64 x] w fun e w'=>e=.returned (.int .i64 (((s.put x).all.idxOf x:Nat):Int))/\lq w pb own w' (s.put x):=by
 by_cases fp:x∈s.all
 ·rw[St.iU fp]
  exact (Sq pb own s x w hx fp h).mono fun e w' ⟨he,hw⟩=>⟨he,hw ▸ lq.refl h⟩
 refine (MR pb own s x w hx fp hn h).mono fun e w' ⟨he,hw⟩=>⟨?_,hw⟩
 grind [St.dX,uq]
end Go.Proofs.YtoiflofhcmjpoaaGreat
