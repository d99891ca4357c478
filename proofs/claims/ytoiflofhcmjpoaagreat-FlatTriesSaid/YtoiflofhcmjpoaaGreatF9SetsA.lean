/- package sets: what an object is in memory; contracts of can, put, root. Conditions: an object that stands in memory; any int. -/
import Derived.Test.YtoiflofhcmjpoaaGreatF9Perm
set_option maxHeartbeats 400000
open Go.Value renaming ownBlock→Qa,int→Qb
open Go.World renaming cell?→Qc
open List renaming length_set→Qd,mem_append→Qg
open Nat renaming le_trans→Qe,zero_le→Qh
open Or renaming inl→Qf,inr→Qi
namespace Go.Proofs.YtoiflofhcmjpoaaGreat
open Go.RowKit Go.Maps
variable {w w' b w2 w3 w4 w6 a:World} {v tv uv u v1 u2:Value} {n pb mb g cap oQ g2 tM:Nat} {xs:List Value} {e:TypeId} {s:St} {f:Int->Option Int} {x:Int}
structure aZ (w:World) (pb mb:Nat) (tv uv:Value) (up:List Nat) (s:St):Prop where
 cells:w.heap[pb]?=some (.cells #[.map (some mb),tv,uv,.int .i64 s.count] 173 (0,0))
 map:dx w mb s.all.length (pos s.all)
 fJ:w.ownsRow 0 3 1 tv s.all.length (s.all.map (Qb .i64))
 Hn:w.ownsRow 0 3 1 uv up.length (up.map λ(k:Nat)=>.int .i64 (k:Int))
 apart:tv.ownBlock=none\/tv.ownBlock≠uv.ownBlock
 up:Up up s.dY
 len:s.all.length=s.dY.length
 nodup:s.all.Nodup
 small:∀ x∈s.all,bF x
def aZ.blocks (pb mb:Nat) (tv uv:Value):List Nat:=[pb,mb]++tv.ownBlock.toList++uv.ownBlock.toList
def cI (w:World) (pb:Nat) (own:List Nat) (s:St):Prop:=∃ mb tv uv up,aZ w pb mb tv uv up s/\own=aZ.blocks pb mb tv uv
theorem bG {own:List Nat} {size base:Nat} (h:w.ownsRow base e size v n xs) (hc:ai own w w') (hn:∀ b,v.ownBlock=some b->b ∉ own):w'.ownsRow base e size v n xs:=by
 obtain⟨h1,h2⟩:=h;refine⟨h1,?_⟩;rcases h2 with h2 | ⟨g,cap,cur,hv,hg,hh,r⟩
 ·exact Qf h2
 exact Qi ⟨g,cap,cur,hv,hg,hc.heap hh (hn g (by rw[hv];rfl)),r⟩
theorem bR {size base:Nat} (h:w.ownsRow base e size v n xs):∃ ao cap,v=.slice ao n cap:=by
 rcases h.2 with ⟨rfl,rfl⟩ | ⟨g,cap,_,rfl,_⟩
 all_goals grind
theorem dj {size base:Nat} (h:w.ownsRow base e size v n xs) (hn:0<n):∃ g cap,v=.slice (some ⟨g,0,none⟩) n cap:=by
 rcases h.2 with ⟨rfl,rfl⟩ | ⟨g,cap,_,rfl,_⟩
 all_goals grind
theorem aZ.aL {own:List Nat} {up:List Nat} (h:aZ w pb mb tv uv up s) (hc:ai own w w') (hn:∀ b∈aZ.blocks pb mb tv uv,b ∉ own):aZ w' pb mb tv uv up s :=
 ⟨hc.heap h.cells (hn pb (by simp[aZ.blocks])),h.map.aL hc (hn mb (by simp[aZ.blocks])),bG h.fJ hc (λb hb=>hn b (by simp[aZ.blocks,hb])),bG h.Hn hc (λb hb=>hn b (by simp[aZ.blocks,hb])),h.apart,h.up,h.len,h.nodup,h.small⟩
theorem TZ (p:Addr) (x:Bool) (w:World) (hc:w.cell? p=some (.bool x)) (hz:w.frozen? p=false) :
  CallsD Tryz.prog 183 #[.pointer (some p)] .returning w λe u' w'=>e=.returned (.tuple #[])/\u'=.returning/\w'=w.setCell p (.bool true):=by
 refine callsD_of_wpS Tryz.func183 rfl λaqg cs hu=>?_;apply wpS_region;simp[wpOpsS,go_sem,recoverD,hu,Tryz.ntmps183,hc,hz,bodyPostS,results,Tryz.results183];cases aqg;simp_all
theorem C8 (pb:Nat) (own:List Nat) (s:St) (x:Int) (w:World) (hx:bF x) (h:cI w pb own s) :
  Calls Tryz.prog 142 #[.pointer (some ⟨pb,0,none⟩),.int .i64 x] w λe w'=>e=.returned (.bool true)/\ai [] w w':=by
 have hmf:∀ (fn:Fn) (first cap:Array Value) (w:World),(Instr.makeFunc fn first cap).run Tryz.prog w=.ok (.func fn first cap) w:=λ_ _ _ _=>rfl;obtain⟨mb,tv,uv,up,h,-⟩:=h;have hc:=h.cells;have fs:w.cell? ⟨pb,0,none⟩=some (.map (some mb)):=by simp[Qc,hc]
 have aW:=lt_of_block hc;have hm:=h.map;clear hc;go_enter_defers Tryz.func142,Tryz.ntmps142
 go_wp2_with (at_lookup;refine xV _ rfl _ _ rfl (hm.alloc _) rfl hx rfl (v:=_) (lh rfl) ?_);refine leaves_cons (f:=183) (args:=#[.pointer (some ⟨w.heap.size,0,none⟩)]) (by simp) (by simp[go_sem]) ?_;refine (TZ ⟨w.heap.size,0,none⟩ true _ ?_ ?_).mono ?_
 ·simp[go_sem]
 ·simp[go_sem]
 rintro e u' w'' ⟨rfl,rfl,rfl⟩;simp[Leaves,settle,results,Tryz.results142,go_sem];exact (ai.refl [] w).alloc _
theorem aZ.c0 {up:List Nat} (h:aZ w pb mb tv uv up s):w.cell? ⟨pb,0,none⟩=some (.map (some mb)):=by simp[Qc,h.cells]
theorem aZ.c1 {up:List Nat} (h:aZ w pb mb tv uv up s):w.cell? ⟨pb,1,none⟩=some tv:=by simp[Qc,h.cells]
theorem aZ.c2 {up:List Nat} (h:aZ w pb mb tv uv up s):w.cell? ⟨pb,2,none⟩=some uv:=by simp[Qc,h.cells]
theorem aZ.c3 {up:List Nat} (h:aZ w pb mb tv uv up s):w.cell? ⟨pb,3,none⟩=some (.int .i64 s.count):=by simp[Qc,h.cells]
theorem aZ.free {up:List Nat} (h:aZ w pb mb tv uv up s) (i:Nat):w.frozen? ⟨pb,i,none⟩=false:=by simp[World.frozen?,h.cells]
theorem aZ.yu {up:List Nat} (h:aZ w pb mb tv (.slice (some ⟨g,0,none⟩) n cap) up s) (hn:n=up.length) (i:Nat) (hi:i<up.length):w.cell? ⟨g,i,none⟩=some (.int .i64 ((up.getD i 0:Nat):Int)):=by
 subst hn;rw[h.Hn.cellAt i (by omega)]
 grind
theorem aZ.I3 {up:List Nat} (h:aZ w pb mb tv (.slice (some ⟨g,0,none⟩) n cap) up s) (hn:n=up.length) (i:Nat):w.frozen? ⟨g,i,none⟩=false:=by
 subst hn;exact h.Hn.frozenAt i
theorem aZ.ab8 {up:List Nat} (h:aZ w pb mb tv (.slice (some ⟨g,0,none⟩) n cap) up s):g≠pb/\g≠mb/\tv.ownBlock≠some g:=by
 rcases h.Hn.2 with ⟨e,_⟩ | ⟨g',gF,cur,e,_,hg,_⟩
 ·simp at e
 simp only[Value.slice.injEq,Option.some.injEq,Addr.mk.injEq,and_true] at e;obtain⟨rfl,rfl⟩:=e.1,e.2.2;refine⟨λe=>?_,h.map.ne hg,λe=>?_⟩
 ·rw[e,h.cells] at hg
  simp at hg
 rcases h.apart with q | q
 ·rw[e] at q;cases q
 exact q e
theorem aZ.aeO {up:List Nat} (h:aZ w pb mb tv (.slice (some ⟨g,0,none⟩) n cap) up s) (hn:n=up.length) (i v:Nat) (hu:Up (up.set i v) s.dY) :
  aZ (w.setCell ⟨g,i,none⟩ (.int .i64 v)) pb mb tv (.slice (some ⟨g,0,none⟩) n cap) (up.set i v) s:=by
 obtain⟨n1,n2,n3⟩:=h.ab8;subst hn;have hs:=h.Hn.stored i (.int .i64 v);have hg:=hs.2;refine⟨?_,h.map.kept hg (by grind),h.fJ.kept hg (Qi n3),?_,h.apart,hu,h.len,h.nodup,h.small⟩
 ·rw[Below.heap_setCell _ _ _ _ (by grind)]
  exact h.cells
 have:=hs.1;rw[Qd,List.map_set];exact this
theorem aZ.drew {up:List Nat} (h:aZ w pb mb tv uv up s):aZ w.drew pb mb tv uv up s:=⟨h.cells,h.map,h.fJ,h.Hn,h.apart,h.up,h.len,h.nodup,h.small⟩
theorem EH (pb mb g cap:Nat) (tv:Value) (up:List Nat) (s:St) (i:Nat) (w:World) (hi:i<up.length) (h:aZ w pb mb tv (.slice (some ⟨g,0,none⟩) up.length cap) up s) :
  Calls Tryz.prog 144 #[.pointer (some ⟨pb,0,none⟩),.int .i64 i] w λe w'=>e=.returned (.int .i64 (s.hd i))/\(∃ kv,kv.length=up.length/\aZ w' pb mb tv (.slice (some ⟨g,0,none⟩) up.length cap) kv s/\kv.getD (s.hd i) 0=s.hd i)/\ai [g] w w':=by
 go_enter Tryz.func144,Tryz.ntmps144;go_wp2;go_loopw [1] (λv wr=>∃ (j:Nat) (kv:List Nat),v=.int .i64 j/\j<up.length/\s.hd j=s.hd i/\kv.length=up.length/\aZ wr pb mb tv (.slice (some ⟨g,0,none⟩) up.length cap) kv s/\ai [g] w wr) (λv _=>(intOf v).toNat);case atStart=>exact⟨i,up,rfl,hi,rfl,rfl,h,ai.refl _ _⟩
 case round =>
  obtain⟨j,kv,rfl,hj,Uw,PC,eJ,ij⟩:=hrel;have c2:=eJ.c2;have HU:=lh PC;have cj:=eJ.yu PC.symm j (by omega);have fj:=eJ.I3 PC.symm j;have hle:=(eJ.up.2 j (by omega)).1;have ck:=eJ.yu PC.symm (kv.getD j 0) (by omega);have HN:Hid (kv.getD j 0≠j->aZ (wr.setCell ⟨g,j,none⟩ (.int .i64 ((kv.getD (kv.getD j 0) 0:Nat):Int))) pb mb tv (.slice (some ⟨g,0,none⟩) up.length cap) (kv.set j (kv.getD (kv.getD j 0) 0)) s):=λe=>eJ.aeO PC.symm _ _ (eJ.up.aey (by omega) e);have HL:Hid (kv.getD (kv.getD j 0) 0<=kv.getD j 0):=(eJ.up.2 (kv.getD j 0) (by omega)).1;have HE:Hid (s.hd (kv.getD (kv.getD j 0) 0)=s.hd j):=(eJ.up.next (by omega)).trans (eJ.up.next (by omega));have HA:=lh eJ;have HI:=lh Uw;clear PC eJ Uw h hi;generalize kv.getD (kv.getD j 0) 0=m at *;generalize hk:kv.getD j 0=k at *;have HK:=lh hk;clear hk;by_cases e:k=j
  ·subst e
   clear ck;go_wp2;go_ret;have hk:s.hd k=k:=HA.out.up.fix (by have:=HU.out;omega) HK.out;exact⟨by rw[<-HI.out,hk];rfl,⟨kv,HU.out,HA.out,by rw[<-HI.out,hk];exact HK.out⟩,ij⟩
  have e2:(((k:Nat):Int) != ((j:Nat):Int))=true:=by rw[bne_iff_ne];omega
  have HN1:=HN.out e;clear HN;go_wp2;go_region
  have A1:=HN1.drew;have B1:=(ij.setCell (p:=⟨g,j,none⟩) (by simp) (.int .i64 (m:Int))).drew;generalize (wr.setCell ⟨g,j,none⟩ (.int .i64 (m:Int))).drew=w2 at A1 B1 ⊢;have Cj:up.length=(kv.set j m).length:=by rw[Qd];exact HU.out.symm
  have c2':=A1.c2;have cj':=A1.yu Cj j (by omega);rw[x8 _ _ _ _ (by grind),if_pos rfl] at cj';clear Cj HN1;have HA2:=lh A1;clear A1 c2 cj fj ck;go_wp2;go_roundw;case rel=>exact⟨m,kv.set j m,rfl,by have:=HL.out;omega,by rw[HE.out,HI.out],by rw[Qd];exact HU.out,HA2.out,B1⟩
  case measure=>have:=HL.out;simp[intOf];omega
def nu (w:World) (pb:Nat) (own:List Nat) (w':World) (s':St):Prop:=∃ nh,cI w' pb nh s'/\ai own w w'/\∀ j∈nh,j∈own\/w.heap.size<=j
theorem Wd (pb:Nat) (own:List Nat) (s:St) (x:Int) (w:World) (hx:bF x) (dE:x∈s.all) (h:cI w pb own s) :
  Calls Tryz.prog 143 #[.pointer (some ⟨pb,0,none⟩),.int .i64 x] w λe w'=>e=.returned (.int .i64 ((s.all.idxOf x:Nat):Int))/\w=w':=by
 obtain⟨mb,tv,uv,up,h,-⟩:=h;have c0:=h.c0;have hm:=h.map;have hp:=lh (Tx dE);clear h dE;go_enter Tryz.func143,Tryz.ntmps143;go_wp2_with (at_lookup;refine jX _ rfl _ _ rfl hm rfl hx rfl hp ?_);go_ret;exact⟨rfl,rfl⟩
theorem Ej (h:w.ownsRow 0 3 1 (.slice (some ⟨g,0,none⟩) n cap) n xs) {b:Nat} {cs:Array Value} (hb:w.heap[b]?=some (.cells cs 173 (0,0))):g≠b:=by
 rcases h.2 with ⟨e,_⟩ | ⟨g',gF,cur,e,_,hg,_⟩
 all_goals grind
theorem We {up:List Nat} {w1:World} (h:aZ w pb mb tv uv up s) (hg:w.grownBy w1 (some mb)) :
  w1.heap[pb]?=some (.cells #[.map (some mb),tv,uv,.int .i64 s.count] 173 (0,0))/\w1.ownsRow 0 3 1 tv s.all.length (s.all.map (Qb .i64)) /\
   w1.ownsRow 0 3 1 uv up.length (up.map λ(k:Nat)=>.int .i64 (k:Int))/\ai [mb] w w1:=by
 have ij:ai [mb] w w1:=(ai.refl _ _).grown hg (by simp);have ne:∀ {v:Value} {n:Nat} {xs:List Value},w.ownsRow 0 3 1 v n xs->∀ b,v.ownBlock=some b->b ∉ [mb]:=by
  intro v n xs hv b hb;rcases hv.2 with ⟨rfl,_⟩ | ⟨g,cap,cur,rfl,_,hg,_⟩
  ·simp[Qa] at hb
  simp[Qa] at hb;subst hb;simpa using h.map.ne hg
 exact⟨ij.heap h.cells (by simpa using h.map.ne h.cells),bG h.fJ ij (ne h.fJ),bG h.Hn ij (ne h.Hn),ij⟩
theorem VL {up:List Nat} {w1:World} {g1:Nat} (h:aZ w pb mb tv uv up s)
  (hc:w1.heap[pb]?=some (.cells #[.map (some mb),tv,uv,.int .i64 s.count] 173 (0,0))) (_ht:w1.ownsRow 0 3 1 tv s.all.length (s.all.map (Qb .i64)))
  (hu:w1.ownsRow 0 3 1 uv up.length (up.map λ(k:Nat)=>.int .i64 (k:Int))) (hm:dx w1 mb n f) (FZ:ai [mb] w w1)
  (ho:w2.ownsRow 0 3 1 (.slice (some ⟨g1,0,none⟩) (s.all.length+1) oQ) (s.all.length+1) (s.all.map (Qb .i64)++[u])) (tF:ai tv.ownBlock.toList w1 w2) (hl:tv.ownBlock=some g1\/w1.heap.size<=g1) :
  w2.heap[pb]?=some (.cells #[.map (some mb),tv,uv,.int .i64 s.count] 173 (0,0)) /\
  (w2.setCell ⟨pb,1,none⟩ (.slice (some ⟨g1,0,none⟩) (s.all.length+1) oQ)).ownsRow 0 3 1 uv up.length (up.map λ(k:Nat)=>.int .i64 (k:Int)) /\
  (w2.setCell ⟨pb,1,none⟩ (.slice (some ⟨g1,0,none⟩) (s.all.length+1) oQ)).ownsRow 0 3 1 (.slice (some ⟨g1,0,none⟩) (s.all.length+1) oQ) (s.all.length+1) (s.all.map (Qb .i64)++[u]) /\
  (w2.setCell ⟨pb,1,none⟩ (.slice (some ⟨g1,0,none⟩) (s.all.length+1) oQ)).heap[pb]?=some (.cells #[.map (some mb),.slice (some ⟨g1,0,none⟩) (s.all.length+1) oQ,uv,.int .i64 s.count] 173 (0,0)) /\
  dx (w2.setCell ⟨pb,1,none⟩ (.slice (some ⟨g1,0,none⟩) (s.all.length+1) oQ)) mb n f /\
  ai (aZ.blocks pb mb tv uv) w (w2.setCell ⟨pb,1,none⟩ (.slice (some ⟨g1,0,none⟩) (s.all.length+1) oQ)) /\
  (tv.ownBlock=some g1\/w.heap.size<=g1)/\uv.ownBlock≠some g1:=by
 have tO:pb ∉ tv.ownBlock.toList:=by
  intro e;obtain⟨g,cap,cur,rfl,-,hg,-⟩:=h.fJ.2.resolve_left (by rintro ⟨rfl,_⟩;simp[Qa] at e);simp[Qa] at e;rw[<-e,h.cells] at hg;simp at hg
 have EN:mb ∉ tv.ownBlock.toList:=by
  intro e;obtain⟨g,cap,cur,rfl,-,hg,-⟩:=h.fJ.2.resolve_left (by rintro ⟨rfl,_⟩;simp[Qa] at e);simp[Qa] at e;exact h.map.ne hg e.symm
 have hub:∀ b,uv.ownBlock=some b->b ∉ tv.ownBlock.toList:=by
  intro b hb e;rcases h.apart with q | q
  all_goals grind
 have bI:=tF.heap hc tO;have Xr:pb≠mb:=h.map.ne h.cells;have hup:uv.ownBlock≠some pb:=by
  intro e;obtain⟨g,cap,cur,rfl,-,hg,-⟩:=h.Hn.2.resolve_left (by rintro ⟨rfl,_⟩;simp[Qa] at e);simp[Qa] at e;rw[e,h.cells] at hg;simp at hg
 have ho':g1≠pb:=Ej ho bI;refine⟨bI,ownsRow_setCell_other (bG hu tF hub) hup _,ownsRow_setCell_other ho (by simpa[Qa] using ho') _,?_,?_,?_,?_,?_⟩
 ·rw[heap_setCell_same bI];rfl
 ·exact ((hm.aL tF EN).aL ((ai.refl [pb] _).setCell (by simp) _) (by grind))
 ·refine ((FZ.mono (by simp[aZ.blocks])).trans (tF.mono (nh:=aZ.blocks pb mb tv uv) (λj hj=>Qf (by grind [aZ.blocks]))) (λj hj=>Qf hj)).setCell (by simp[aZ.blocks]) _
 ·exact hl.imp id (λq=>Qe FZ.size q)
 intro e;rcases hl with q | q
 ·rcases h.apart with r | r
  ·rw[q] at r;cases r
  exact r (q.trans e.symm)
 have:=(hu.lt _ e).2;omega
theorem Oe {up:List Nat} {g1:Nat} (h:aZ w pb mb tv uv up s) {c2:Prop}
  (hR:c2/\w3.ownsRow 0 3 1 uv up.length (up.map λ(k:Nat)=>.int .i64 (k:Int)) /\
   w3.ownsRow 0 3 1 (.slice (some ⟨g1,0,none⟩) (s.all.length+1) oQ) (s.all.length+1) (s.all.map (Qb .i64)++[u]) /\
   w3.heap[pb]?=some (.cells #[.map (some mb),v1,uv,.int .i64 s.count] 173 (0,0))/\dx w3 mb n f/\ai (aZ.blocks pb mb tv uv) w w3/\(tv.ownBlock=some g1\/w.heap.size<=g1)/\uv.ownBlock≠some g1)
  (ho:w4.ownsRow 0 3 1 (.slice (some ⟨g2,0,none⟩) (up.length+1) tM) (up.length+1) ((up.map λ(k:Nat)=>.int .i64 (k:Int))++[u2])) (ij:ai uv.ownBlock.toList w3 w4) (hl:uv.ownBlock=some g2\/w3.heap.size<=g2) :
  w4.heap[pb]?=some (.cells #[.map (some mb),v1,uv,.int .i64 s.count] 173 (0,0)) /\
  w4.ownsRow 0 3 1 (.slice (some ⟨g1,0,none⟩) (s.all.length+1) oQ) (s.all.length+1) (s.all.map (Qb .i64)++[u]) /\
  w4.ownsRow 0 3 1 (.slice (some ⟨g2,0,none⟩) (up.length+1) tM) (up.length+1) ((up.map λ(k:Nat)=>.int .i64 (k:Int))++[u2]) /\
  dx w4 mb n f/\ai (aZ.blocks pb mb tv uv) w w4/\(tv.ownBlock=some g1\/w.heap.size<=g1)/\(uv.ownBlock=some g2\/w.heap.size<=g2)/\g1≠g2:=by
 obtain⟨-,hu3,OQ,dK,hm3,afO,Od,hug⟩:=hR;have tO:pb ∉ uv.ownBlock.toList:=by
  intro e;obtain⟨g,cap,cur,rfl,-,hg,-⟩:=h.Hn.2.resolve_left (by rintro ⟨rfl,_⟩;simp[Qa] at e);simp[Qa] at e;rw[<-e,h.cells] at hg;simp at hg
 have EN:mb ∉ uv.ownBlock.toList:=by
  intro e;obtain⟨g,cap,cur,rfl,-,hg,-⟩:=h.Hn.2.resolve_left (by rintro ⟨rfl,_⟩;simp[Qa] at e);simp[Qa] at e;exact h.map.ne hg e.symm
 refine⟨ij.heap dK tO,bG OQ ij (λb hb e=>?_),ho,hm3.aL ij EN,?_,Od,hl.imp id (λq=>Qe afO.size q),?_⟩
 ·simp[Qa] at hb
  grind
 ·exact afO.trans ij (λj hj=>Qf (by grind [aZ.blocks]))
 intro e;subst e;rcases hl with q | q
 ·exact hug q
 have:=(OQ.lt g1 rfl).2;omega
theorem Oi {up:List Nat} {g1:Nat} (h:aZ w pb mb tv uv up s) (hx:bF x) (dE:x ∉ s.all)
  (hc:w6.heap[pb]?=some (.cells #[.map (some mb),.slice (some ⟨g1,0,none⟩) (s.all.length+1) oQ,.slice (some ⟨g2,0,none⟩) (up.length+1) tM,.int .i64 ((s.count:Int)+1)] 173 (0,0)))
  (hm:dx w6 mb (s.all.length+1) (λy=>if y=x then some (s.all.length:Int) else pos s.all y))
  (ht:w6.ownsRow 0 3 1 (.slice (some ⟨g1,0,none⟩) (s.all.length+1) oQ) (s.all.length+1) (s.all.map (Qb .i64)++[.int .i64 x]))
  (hu:w6.ownsRow 0 3 1 (.slice (some ⟨g2,0,none⟩) (up.length+1) tM) (up.length+1) ((up.map λ(k:Nat)=>.int .i64 (k:Int))++[.int .i64 ((s.all.length:Nat):Int)]))
  (bn:g1≠g2) (Od:tv.ownBlock=some g1\/w.heap.size<=g1) (Lg:uv.ownBlock=some g2\/w.heap.size<=g2)
  (ij:ai (aZ.blocks pb mb tv uv) w w6):nu w pb (aZ.blocks pb mb tv uv) w6 (s.put x):=by
 have hl:up.length=s.all.length:=by rw[h.up.1,h.len]
 have ot:=St.M0 dE h.len;rw[St.e8 dE] at ot ⊢;refine⟨_,⟨mb,.slice (some ⟨g1,0,none⟩) (s.all.length+1) oQ,.slice (some ⟨g2,0,none⟩) (up.length+1) tM,up++[up.length],⟨?_,?_,?_,?_,?_,?_,?_,?_,?_⟩,rfl⟩,ij,?_⟩
 ·grind
 ·grind [SN]
 ·grind
 ·grind
 ·exact Qi (by simpa[Qa] using bn)
 ·have:=h.up.put
  rw[<-h.len] at this;exact this
 ·simp[h.len]
 ·exact List.nodup_append.2 ⟨h.nodup,by simp,λa ha b hb=>by grind⟩
 ·intro y hy
  rcases Qg.1 hy with q | q
  ·exact h.small y q
  all_goals grind
 intro j hj;simp only[aZ.blocks,Qg,List.mem_cons,Qa,Option.toList,List.mem_nil_iff,or_false] at hj
 all_goals grind [aZ.blocks]
theorem Um (pb:Nat) (own:List Nat) (s:St) (x:Int) (w:World) (hx:bF x) (dE:x ∉ s.all) (hn:s.all.length<34359738368) (h:cI w pb own s) :
  Calls Tryz.prog 143 #[.pointer (some ⟨pb,0,none⟩),.int .i64 x] w λe w'=>e=.returned (.int .i64 (s.all.length:Int))/\nu w pb own w' (s.put x):=by
 obtain⟨mb,tv,uv,up,h,rfl⟩:=h;obtain⟨ao,AX,rfl⟩:=bR h.fJ;have c0:=h.c0;have c1:=h.c1;have c2:=h.c2;have c3:=h.c3;have f1:=h.free 1;have f2:=h.free 2;have f3:=h.free 3;have hm:=h.map;have hp:=lh (S9 dE);have PC:up.length=s.all.length:=by rw[h.up.1,h.len]
 have lu:=s.count_le;have AW:=h.len;have qw:s.count<=34359738368:=by omega
 have hub:up.length<34359738368:=by omega
 clear lu;have HS:=lh AW;have HU:=lh PC;have HH:=lh h;have HI:=lh dE;clear h AW PC dE;go_enter Tryz.func143,Tryz.ntmps143;go_wp2_with (first
  | (at_lookup;refine fP _ rfl _ _ rfl hm rfl hx rfl hp ?_)
  | (at_mapUpdate;refine ph _ rfl _ _ _ rfl hm (by unfold maxLen;omega) rfl hx (v:=(s.all.length:Int)) (WalkArith.wf_i64 (by omega)) rfl rfl ?_;intro w1 rX Od;have R1:=We HH.out Od;clear Od c0 c1 c2 c3 f1 f2 f3;have aY:=lh R1.1;obtain⟨c0,c1,c2,c3,f1,f2,f3⟩:=four R1.1;have ht1:=R1.2.1;have PO:=R1.2.2.1;have FZ:=R1.2.2.2;clear R1)
  | (at_builtin;refine zE rfl (.tmp 34) (.tmp 36) rfl rfl rfl (by simp) ht1 (Qh _) (by omega) ?_;intro g1 oQ w2 Pb tF yJ;have R2:=VL HH.out aY.out ht1 PO rX FZ Pb tF yJ;clear tF yJ ht1 PO rX FZ c0 c1 c2 c3 f1 f2 f3;have Bp:=lh R2;obtain⟨c0,c1,c2,c3,f1,f2,f3⟩:=four R2.1;clear R2)
  | (at_builtin;refine zE rfl (.tmp 44) (.tmp 46) rfl rfl rfl (by simp) Bp.out.2.1 (Qh _) (by omega) ?_;intro g2 tM w4 FU aga Cj;have R4:=Oe HH.out Bp.out FU aga Cj;clear FU aga Cj c0 c1 c2 c3 f1 f2 f3;have Ez:=lh R4;obtain⟨c0,c1,c2,c3,f1,f2,f3⟩:=four R4.1;clear R4))
 go_ret;have R:=Ez.out;have n1:=Ej R.2.1 R.1;have n2:=Ej R.2.2.1 R.1;have hc:=((ai.refl [pb] w4).setCell (p:=⟨pb,2,none⟩) (by simp) (.slice (some ⟨g2,0,none⟩) (up.length+1) tM)).setCell (p:=⟨pb,3,none⟩) (by simp) (.int .i64 ((s.count:Int)+1));refine⟨rfl,Oi (oQ:=oQ) (tM:=tM) HH.out hx HI.out ?_ ?_ ?_ ?_ R.2.2.2.2.2.2.2 R.2.2.2.2.2.1 R.2.2.2.2.2.2.1 ?_⟩
 ·rw[heap_setCell_same (heap_setCell_same R.1 _ _)];rfl
 ·exact R.2.2.2.1.aL hc (by simpa using (R.2.2.2.1.ne R.1).symm)
 ·exact bG R.2.1 hc (by simpa[Qa] using n1)
 ·exact bG R.2.2.1 hc (by simpa[Qa] using n2)
 exact R.2.2.2.2.1.trans hc (λj hj=>Qf (by grind [aZ.blocks]))
theorem nu.refl {own:List Nat} (h:cI w pb own s):nu w pb own w s:=⟨own,h,ai.refl _ _,λ_ hj=>Qf hj⟩
theorem nu.comp {c:World} {own RJ:List Nat} {t:St} (h:ai own a b) (hs:∀ j∈RJ,j∈own\/a.heap.size<=j) (k:nu b pb RJ c t):nu a pb own c t:=by
 obtain⟨Eh,k1,k2,k3⟩:=k;refine⟨Eh,k1,h.trans k2 hs,λj hj=>?_⟩;rcases k3 j hj with q | q
 ·exact hs j q
 exact Qi (Qe h.size q)
theorem nu.behind {c:World} {own:List Nat} {t:St} (h:ai [] a b) (k:nu b pb own c t):nu a pb own c t:=nu.comp (h.mono (by simp)) (λ_ hj=>Qf hj) k
theorem yy {l:List Int} (h:x ∉ l):(l++[x]).idxOf x=l.length:=by grind
theorem D0 (pb:Nat) (own:List Nat) (s:St) (x:Int) (w:World) (hx:bF x) (hn:s.all.length<34359738368) (h:cI w pb own s) :
  Calls Tryz.prog 143 #[.pointer (some ⟨pb,0,none⟩),.int .i64 x] w λe w'=>e=.returned (.int .i64 (((s.put x).all.idxOf x:Nat):Int))/\nu w pb own w' (s.put x):=by
 by_cases dE:x∈s.all
 ·rw[St.kn dE]
  exact (Wd pb own s x w hx dE h).mono λe w' ⟨he,hw⟩=>⟨he,hw ▸ nu.refl h⟩
 refine (Um pb own s x w hx dE hn h).mono λe w' ⟨he,hw⟩=>⟨?_,hw⟩
 grind [St.e8,yy]
