/- rest.To: its contract. Conditions: a graph, two parts, a plan that lie in memory and read so, of a bounded size. -/
import Derived.Test.YtkacjmoamgjfpaaGreatHxAround9
namespace Go.Proofs.YtkacjmoamgjfpaaGreat
open Go.RowKit Go.Maps
theorem five_boxes (w:World) {g:Plain.Gr} {p q:Plain.Pt} {turn same:List (List Int)} {eo ao bo tno so co fo:Option Addr} {cap ac bc tc sc cc fc:Nat} {w2:World} (h:Chg [] (((((w.alloc (.cells #[.int .i64 g.n,.slice eo g.e.length cap] 24)).alloc (.cells #[.slice ao p.v.length ac,.slice bo p.e.length bc] 29)).alloc (.cells #[.slice tno turn.length tc,.slice so same.length sc] 32)).alloc (.cells #[.slice co q.v.length cc,.slice fo q.e.length fc] 29)).alloc (.cells #[.slice none 0 0,.slice none 0 0] 32)) w2) :
  (w2.cell? ⟨w.heap.size,0,none⟩=some (.int .i64 g.n)∧w2.cell? ⟨w.heap.size,1,none⟩=some (.slice eo g.e.length cap)∧w2.cell? ⟨w.heap.size+1,0,none⟩=some (.slice ao p.v.length ac)∧w2.cell? ⟨w.heap.size+1,1,none⟩=some (.slice bo p.e.length bc)∧w2.cell? ⟨w.heap.size+2,0,none⟩=some (.slice tno turn.length tc)∧w2.cell? ⟨w.heap.size+2,1,none⟩=some (.slice so same.length sc)) ∧
  w2.cell? ⟨w.heap.size+3,0,none⟩=some (.slice co q.v.length cc)∧w2.cell? ⟨w.heap.size+3,1,none⟩=some (.slice fo q.e.length fc)∧w2.heap[w.heap.size+4]?=some (.cells #[.slice none 0 0,.slice none 0 0] 32 (0,0))∧w.heap.size+5≤w2.heap.size:=by
 obtain⟨h4,h5,hc5⟩:=box_two (((w.alloc (.cells #[.int .i64 g.n,.slice eo g.e.length cap] 24)).alloc (.cells #[.slice ao p.v.length ac,.slice bo p.e.length bc] 29)).alloc (.cells #[.slice tno turn.length tc,.slice so same.length sc] 32)) #[.slice co q.v.length cc,.slice fo q.e.length fc] #[.slice none 0 0,.slice none 0 0] 29 32
 obtain⟨x0,x1,y0,y1,z0,z1,hs⟩:=three_boxes w (hc5.trans h (by simp))
 have e:(((w.alloc (.cells #[.int .i64 g.n,.slice eo g.e.length cap] 24)).alloc (.cells #[.slice ao p.v.length ac,.slice bo p.e.length bc] 29)).alloc (.cells #[.slice tno turn.length tc,.slice so same.length sc] 32)).heap.size=w.heap.size+3:=by simp
 rw[e] at h4 h5
 have hz:=h.size
 refine⟨⟨x0,x1,y0,y1,z0,z1⟩,h.cell ((cell_of_row _ _ 0 _ _ _ h4).trans rfl) (by simp),h.cell ((cell_of_row _ _ 1 _ _ _ h4).trans rfl) (by simp),h.heap h5 (by simp),?_⟩
 simpa using hz
theorem five_chg (w:World) (c1 c2 c3 c4 c5:Array Value) (t1 t2 t3 t4 t5:TypeId):Chg [] w (((((w.alloc (.cells c1 t1)).alloc (.cells c2 t2)).alloc (.cells c3 t3)).alloc (.cells c4 t4)).alloc (.cells c5 t5)):=((((((Chg.refl [] w).alloc _).alloc _).alloc _).alloc _).alloc _)
theorem restErr_plan {g:Plain.Gr} {p q:Plain.Pt} {turn same:List (List Int)} (h:Plain.planErr g p turn same≠0):Plain.restErr g p q turn same=Plain.planErr g p turn same:=if_pos h
theorem restErr_zero {g:Plain.Gr} {p q:Plain.Pt} {turn same:List (List Int)} (h:Plain.planErr g p turn same=0) (h1:q.err g=0) (h2:Plain.subB q.v p.v=true) (h3:Plain.subB q.e p.e=true):Plain.restErr g p q turn same=0:=by
 unfold Plain.restErr
 rw[if_neg (by simp[h]),if_pos ⟨h1,h2,h3⟩]
theorem restErr_four {g:Plain.Gr} {p q:Plain.Pt} {turn same:List (List Int)} (h:Plain.planErr g p turn same=0) (h1:¬ (q.err g=0∧Plain.subB q.v p.v=true∧Plain.subB q.e p.e=true)):Plain.restErr g p q turn same=4:=by
 unfold Plain.restErr
 rw[if_neg (by simp[h]),if_neg h1]
theorem out_store {wr:World} {b:Nat} (hb:wr.heap[b]?=some (.cells #[.slice none 0 0,.slice none 0 0] 32 (0,0))) (u v:Value) :
  ((wr.setCell ⟨b,0,none⟩ u).setCell ⟨b,1,none⟩ v).cell? ⟨b,0,none⟩=some u∧((wr.setCell ⟨b,0,none⟩ u).setCell ⟨b,1,none⟩ v).cell? ⟨b,1,none⟩=some v∧Chg [b] wr ((wr.setCell ⟨b,0,none⟩ u).setCell ⟨b,1,none⟩ v):=by
 have hh:=heap_setCell_same (heap_setCell_same hb 0 u) 1 v
 exact⟨(cell_of_row _ _ 0 _ _ _ hh).trans rfl,(cell_of_row _ _ 1 _ _ _ hh).trans rfl,((Chg.refl _ wr).setCell (Or.inl (by simp)) _).setCell (Or.inl (by simp)) _⟩
theorem SNow.add {a w:World} {pb sb r:Nat} {s:St} {x:Int} (hx:I64 x) (hn:s.all.length<34359738368) (h:SNow a pb sb r s w) :
  Calls Tryz.prog 68 #[.pointer (some ⟨pb,0,none⟩),.int .i64 x] w fun e w'=>e=.returned (.bool (decide (x ∉ s.all)))∧SNow a pb sb r (s.put x) w'∧∃ l,Chg l w w'∧∀ j∈l,a.heap.size≤j∧j≠sb∧j≠r:=by
 obtain⟨own,h1,h2,h5,h3,h4⟩:=h
 refine (add_any pb own s x w hx hn h1).mono ?_
 rintro e w' ⟨he,own2,k1,k2,k3⟩
 have:=k2.size
 refine⟨he,⟨own2,k1,fun j hj=>?_,h5,by omega,by omega⟩,own,k2,h2⟩
 rcases k3 j hj with q | q
 ·exact h2 j q
 exact⟨by omega,by omega,by omega⟩
structure Apart (L:Int→Option Int) (left:Lit→Bool) (s:St):Prop where
 ok:s.Ok
 rel:∀ x y,s.rel x y↔x=y
 small:∀ x∈s.all,0≤x∧x<1000000000
 met:∀ y,I64 y→(L y).isSome=true→left (.int .i64 y)=false→Plain.lf L y∈s.all
theorem nodup_small {l:List Int} {N:Nat} (hn:l.Nodup) (h:∀ x∈l,0≤x∧x<N):l.length≤N:=by
 have:=Plain.len_le_of_sub (m:=(List.range N).map fun (k:Nat)=>(k:Int)) hn fun x hx=>List.mem_map.2 ⟨x.toNat,List.mem_range.2 (by have:=h x hx;omega),by have:=h x hx;omega⟩
 simpa using this
theorem Apart.len {L:Int→Option Int} {left:Lit→Bool} {s:St} (h:Apart L left s):s.all.length≤1000000000:=nodup_small h.ok.nodup h.small
theorem Apart.start {L:Int→Option Int} {left:Lit→Bool} (h:∀ y,I64 y→(L y).isSome=true→left (.int .i64 y)=true):Apart L left ⟨[],[]⟩ :=
 ⟨St.ok_nil,fun _ _=>St.rel_nil,by simp,fun y iy h1 h2=>by rw[h y iy h1] at h2;cases h2⟩
theorem Apart.put {L:Int→Option Int} {left:Lit→Bool} {s:St} (h:Apart L left s) {x c:Int} (hc:Plain.lf L x=c) (hs:0≤c∧c<1000000000):Apart L (fun z=>left z&&!z.sameKey (.int .i64 x)) (s.put c):=by
 refine⟨h.ok.put c,fun a b=>(St.rel_put h.ok c a b).trans (h.rel a b),fun a ha=>?_,fun y iy h1 h2=>?_⟩
 ·by_cases q:c∈s.all
  ·rw[St.put_in q] at ha;exact h.small a ha
  rw[St.put_new q] at ha
  rcases List.mem_append.1 ha with k | k
  ·exact h.small a k
  rw[List.mem_singleton.1 k];exact hs
 rw[litSame] at h2
 by_cases e:y=x
 ·rw[e,hc];exact s.mem_put c
 simp only[e,decide_false,Bool.not_false,Bool.and_true] at h2
 exact St.mem_put_of c (h.met y iy h1 h2)
set_option maxRecDepth 100000 in
set_option maxHeartbeats 16000000 in
theorem restTo_low (vg vp vx vq:Value) (g:Plain.Gr) (p q:Plain.Pt) (turn same:List (List Int)) (w:World) (hpl:p.e.length≤10000) (hpv:p.v.length≤10000) (hql:q.e.length≤10000) (hqv:q.v.length≤10000) (hTL:turn.length<2147483648) (hS:Plain.sumLen turn turn.length<2147483648) (hsl:same.length≤10000) (hsr:∀ i,(same.getD i []).length≤10000) (hg:GrAt w vg g) (hp:PtAt w vp p) (hx:PlAt w vx turn same) (hq:PtAt w vq q) :
  Calls Tryz.prog 39 #[vg,vp,vx,vq] w fun e w'=>∃ ov,e=.returned (.tuple #[ov,.int .i64 (Plain.restErr g p q turn same)])∧(Plain.restErr g p q turn same≠0→ov=.agg #[.slice none 0 0,.slice none 0 0]) ∧
   (Plain.restErr g p q turn same=0→∀ own wx,Chg own w' wx→(∀ j∈own,j<w.heap.size)→PlAt wx ov (Plain.restTurn q.e turn) (Plain.restSame g p q turn same))∧Chg [] w w':=by
 have HS1:=lh hS
 have HSR:=lh hsr
 have HQ:=lh hq
 clear hS hsr
 have HG:=lh hg
 have HP:=lh hp
 have HX:=lh hx
 obtain⟨eo,cap,rfl,hn,hm,hsm,hcell⟩:=hg
 obtain⟨v1,v2,rfl,hv,he⟩:=hp
 obtain⟨ao,ac,rfl,has,ham,hacell⟩:=hv
 obtain⟨bo,bc,rfl,hbs,hbm,hbcell⟩:=he
 have HAC:=lh hacell
 have HBC:=lh hbcell
 obtain⟨t1,t2,rfl,ht,hs⟩:=hx
 have HT:=lh ht
 have HS:=lh hs
 obtain⟨tno,tc,rfl,htm,-⟩:=ht
 obtain⟨so,sc,rfl,hsm2,hsc⟩:=hs
 obtain⟨-,-,hc1⟩:=box_two w #[.int .i64 g.n,.slice eo g.e.length cap] #[.slice ao p.v.length ac,.slice bo p.e.length bc] 24 29
 obtain⟨-,hc3⟩:=box_three w #[.int .i64 g.n,.slice eo g.e.length cap] #[.slice ao p.v.length ac,.slice bo p.e.length bc] #[.slice tno turn.length tc,.slice so same.length sc] 24 29 32
 have HC1:=lh (hc1.trans hc3 (by simp))
 have HBXS:=lh (fun w2 h=>three_boxes w (g:=g) (p:=p) (turn:=turn) (same:=same) (eo:=eo) (ao:=ao) (bo:=bo) (tno:=tno) (so:=so) (cap:=cap) (ac:=ac) (bc:=bc) (tc:=tc) (sc:=sc) (w2:=w2) h)
 clear hcell hacell hbcell hsm hbs has hn hc1 hc3 hsc
 clear HBXS HC1
 obtain⟨v3,v4,rfl,hqv1,hqe1⟩:=hq
 obtain⟨co,cc,rfl,-,-,-⟩:=hqv1
 obtain⟨fo,fc,rfl,-,-,-⟩:=hqe1
 have HC1:=lh (five_chg w #[.int .i64 g.n,.slice eo g.e.length cap] #[.slice ao p.v.length ac,.slice bo p.e.length bc] #[.slice tno turn.length tc,.slice so same.length sc] #[.slice co q.v.length cc,.slice fo q.e.length fc] #[.slice none 0 0,.slice none 0 0] 24 29 32 29 32)
 have HBXS:=lh (fun w2 h=>five_boxes w (g:=g) (p:=p) (q:=q) (turn:=turn) (same:=same) (eo:=eo) (ao:=ao) (bo:=bo) (tno:=tno) (so:=so) (co:=co) (fo:=fo) (cap:=cap) (ac:=ac) (bc:=bc) (tc:=tc) (sc:=sc) (cc:=cc) (fc:=fc) (w2:=w2) h)
 obtain⟨⟨x0,x1,y0,y1,z0,z1⟩,q0,q1,r0,hsz⟩:=HBXS.out _ (Chg.refl _ _)
 go_enter Tryz.func39,Tryz.ntmps39
 go_wp2_with fail
 refine (lookR_any _ _ _ g p turn same _ hpl hpv hTL HS1.out hsl HSR.out (HG.out.fresh HC1.out) (HP.out.fresh HC1.out) (HX.out.fresh HC1.out)).mono ?_
 rintro e w2 ⟨mv,rfl,hno,hyes,hc2⟩
 obtain⟨w1,hw1⟩:∃ w1,(((((w.alloc (.cells #[.int .i64 g.n,.slice eo g.e.length cap] 24)).alloc (.cells #[.slice ao p.v.length ac,.slice bo p.e.length bc] 29)).alloc (.cells #[.slice tno turn.length tc,.slice so same.length sc] 32)).alloc (.cells #[.slice co q.v.length cc,.slice fo q.e.length fc] 29)).alloc (.cells #[.slice none 0 0,.slice none 0 0] 32))=w1:=⟨_,rfl⟩
 rw[hw1] at HC1 HBXS hc2
 have HC2:=lh hc2
 have HW2:=lh (HC1.out.trans HC2.out (by simp))
 have HBX:=lh (fun wx (hx:Chg [] w2 wx)=>HBXS.out wx (HC2.out.trans hx (by simp)))
 clear hw1 x0 x1 y0 y1 z0 z1 q0 q1 r0 hsz hc2
 obtain⟨⟨x0,x1,y0,y1,z0,z1⟩,q0,q1,hr8,hsz⟩:=HBX.out _ (Chg.refl _ _)
 have HR8:=lh hr8
 have r0:=(cell_of_row _ _ 0 _ _ _ hr8).trans (show _=some (Value.slice none 0 0) from rfl)
 have r1:=(cell_of_row _ _ 1 _ _ _ hr8).trans (show _=some (Value.slice none 0 0) from rfl)
 have f0:=free_at hr8 0
 have f1:=free_at hr8 1
 clear hr8
 by_cases hz:Plain.planErr g p turn same=0
 ·obtain⟨lb,rfl,hlb,hlm,hrl⟩:=hyes hz
  have HPZ:=lh hz
  have hto:=Plain.turnErr_zero (Plain.flatErr_zero (Plain.planErr_zero hz).1).1
  have HPE:=lh hto.1
  have HTO:=lh hto.2
  have HLV:=lh (Plain.leftOf_small (Plain.walksOf g p turn) hrl)
  have HLL:=lh (fun (d:Int) (hd:d∈p.darts)=>Plain.left_dart hz hd)
  have HLO:=lh (fun (v:Int) (hv:v∈p.v) (h:Plain.dartsAt g p v=[])=>Plain.left_lone hz hv h)
  obtain⟨L,hLe⟩:∃ L,Plain.leftOf (Plain.regionsOf g p turn same) (Plain.walksOf g p turn)=L:=⟨_,rfl⟩
  have HLE:=lh hLe
  rw[hLe] at hlm HLV HLL HLO
  have HL2:=lh hlm
  rw[hz]
  clear hlm hrl hno hyes hLe hto hlb hz
  go_wp2_with fail
  refine (rightPart_any _ _ g q _ (by omega) (HG.out.fresh HW2.out) (HQ.out.fresh HW2.out)).mono ?_
  rintro e w3 ⟨rfl,hc3⟩
  have HC3:=lh hc3
  have HW3:=lh (HW2.out.trans hc3 (by simp))
  clear x0 x1 y0 y1 z0 z1 q0 q1 r0 r1 f0 f1 hc3
  obtain⟨⟨x0,x1,y0,y1,z0,z1⟩,q0,q1,hr8,hsz⟩:=HBX.out _ HC3.out
  have HR83:=lh hr8
  have r0:=(cell_of_row _ _ 0 _ _ _ hr8).trans (show _=some (Value.slice none 0 0) from rfl)
  have r1:=(cell_of_row _ _ 1 _ _ _ hr8).trans (show _=some (Value.slice none 0 0) from rfl)
  have f0:=free_at hr8 0
  have f1:=free_at hr8 1
  clear hr8
  by_cases hqe:q.err g=0
  ·rw[hqe]
   have HQE:=lh hqe
   have hpo:=Plain.Pt.err_ok HPE.out
   have HRV:=lh (Plain.rises_pair hpo.2.1)
   have HRE:=lh (Plain.rises_pair hpo.2.2.1)
   clear hpo hqe
   go_wp2_with fail
   refine (within_any _ _ q p _ (by omega) (by omega) (by omega) (by omega) HRV.out HRE.out (HQ.out.fresh HW3.out) (HP.out.fresh HW3.out)).mono ?_
   rintro e w4 ⟨rfl,hc4⟩
   have HC4:=lh hc4
   have HW4:=lh (HW3.out.trans hc4 (by simp))
   have HC24:=lh (HC3.out.trans hc4 (by simp))
   have HBX4:=lh (fun wx (hx:Chg [] w4 wx)=>HBX.out wx (HC24.out.trans hx (by simp)))
   clear x0 x1 y0 y1 z0 z1 q0 q1 r0 r1 f0 f1 hc4
   obtain⟨⟨x0,x1,y0,y1,z0,z1⟩,q0,q1,hr8,hsz⟩:=HBX4.out _ (Chg.refl _ _)
   have HR84:=lh hr8
   cases hwi:(Plain.subB q.v p.v&&Plain.subB q.e p.e) with
   | false =>
    have HR4:=lh (restErr_four (q:=q) HPZ.out (fun h=>by rw[h.2.1,h.2.2] at hwi;cases hwi))
    have r0:=(cell_of_row _ _ 0 _ _ _ hr8).trans (show _=some (Value.slice none 0 0) from rfl)
    have r1:=(cell_of_row _ _ 1 _ _ _ hr8).trans (show _=some (Value.slice none 0 0) from rfl)
    have f0:=free_at hr8 0
    have f1:=free_at hr8 1
    clear hwi hr8
    go_wp2
    obtain⟨o0,o1,o2⟩:=out_store HR84.out (.slice none 0 0) (.slice none 0 0)
    refine bodyPost_ret (v:=.tuple #[.agg #[.slice none 0 0,.slice none 0 0],.int .i64 4]) (by simp[results,Tryz.results39,go_sem,o0,o1]) rfl ?_
    exact⟨_,by rw[HR4.out],fun _=>rfl,fun h=>absurd (HR4.out.symm.trans h) (by decide),HW4.out.trans o2 (fun j hj=>Or.inr (by simp at hj;omega))⟩
   | true =>
    have hw2':=Bool.and_eq_true_iff.1 hwi
    have HR0:=lh (restErr_zero HPZ.out HQE.out hw2'.1 hw2'.2)
    have HSUB:=lh (Plain.subB_iff.1 hw2'.2)
    have HSUV:=lh (Plain.subB_iff.1 hw2'.1)
    have HL4:=lh (HL2.out.chg HC24.out (by simp))
    have hnil0:([]:List Int).length<4294967296:=by simp
    clear hwi hw2' hr8
    go_wp2_with fail
    refine (new_any _ [] _ hnil0 (IntsAt.nil _)).mono ?_
    rintro e w6 ⟨pb,own,rfl,hso,hc6,hown6⟩
    have HC6:=lh hc6
    have HSO:=lh hso
    have HOW:=lh hown6
    obtain⟨D,hown,hDm⟩:=HL4.out.chg hc6 (by simp)
    have HDM:=lh hDm
    have HLT:=lh (show lb<w4.heap.size from HL4.out.lt)
    clear hso hc6 hown6 hDm hnil0 x0 x1 y0 y1 z0 z1 q0 q1 hsz
    go_wp2_with (at_range;refine wpList_range_own _ rfl _ 93 rfl 3 3 keyedInt Tryz.underlying93 _ lb 1000000000000 D rfl hown ?_;intro w9 hrg0 hg0 hs0)
    go_frame
    have HC9:=lh (show Chg [] w4 w9 from HC6.out.grown hg0 (fun j hj=>by cases hj))
    have HSN:=lh (show SNow w4 pb w6.heap.size w6.heap.size ⟨[],[]⟩ w9 by
     have hk:=(Chg.refl [] w6).grown hg0 (fun j hj=>by cases hj)
     have h6:=HC6.out.size
     refine⟨own,HSO.out.chg hk (by simp),fun j hj=>?_,h6,by omega,by omega⟩
     have h1:=HOW.out j hj
     have h2:=HSO.out.lt j hj
     exact⟨h1,by omega,by omega⟩)
    have HRB:=lh (show w4.heap.size≤w6.heap.size from HC6.out.size)
    obtain⟨rb,hrb⟩:∃ rb,w6.heap.size=rb:=⟨_,rfl⟩
    rw[hrb] at HSN HRB hrg0 ⊢
    clear hg0 hs0 hown hrb
    go_loopw [14] (fun _ wi=>∃ (left:Lit→Bool) (cnt:Nat) (s:St),wi.ranges Tryz.prog 3 (plainElem Tryz.prog 3) lb rb 1000000000000 D left cnt∧SNow w4 pb rb rb s wi∧Chg [] w4 wi∧Hid (∀ z,left z=true→Maps.has D z=true)∧Hid (Apart L left s)) (fun _ wi=>wi.rangeLeft lb rb)
    case atStart=>exact⟨_,_,_,hrg0,HSN.out,HC9.out,lh (fun z h=>h),lh (Apart.start (fun y iy h=>by rw[(HDM.out y iy).1];exact h))⟩
    case round =>
     obtain⟨left,cnt,s,hrg,hsn,hch,hlh,hst⟩:=hrel
     have HSN':=lh hsn
     have HCH:=lh hch
     clear hsn hch
     go_wp2_with (at_next;refine wpList_next_ranges_ii _ rfl _ rfl 3 3 .i64 .i64 keyedInt Tryz.underlying3 Tryz.underlying3 lb rb 1000000000000 _ _ _ rfl hrg ?_ ?_)
     ·intro hc0 hl0
      have HOB:=lh (show Own w4 pb s wr by
       obtain⟨own2,k1,k2,-⟩:=HSN'.out
       exact⟨own2,k1,HCH.out,fun j hj=>(k2 j hj).1⟩)
      have HAP:=lh (show Apart L (fun _=>false) s from⟨hst.out.ok,hst.out.rel,hst.out.small,fun y iy h1 _=>hst.out.met y iy h1 (hl0 _)⟩)
      have hsl:=hst.out.len
      have HQR:=lh (Plain.rises_pair (Plain.Pt.err_ok HQE.out).2.2.1)
      have HQI:=lh (show IntsAt w (.slice fo q.e.length fc) q.e by obtain⟨v1,v2,e,-,he⟩:=HQ.out;cases e;exact he)
      have HPI:=lh (show IntsAt w (.slice bo p.e.length bc) p.e by obtain⟨v1,v2,e,-,he⟩:=HP.out;cases e;exact he)
      clear hrg hlh hst hl0 hc0 HSN'
      obtain⟨⟨x0,x1,y0,y1,z0,z1⟩,q0,q1,hr8,hsz⟩:=HBX4.out _ HCH.out
      clear x0 x1 y0 z0 z1 q0 q1 hr8 hsz
      generalize wr=wj at *
      go_wp2
      go_loopw [66] (fun c wi=>∃ k:Nat,k≤p.e.length∧c=.int .i64 k∧Own w4 pb (Plain.joinFrom L p q.e s k) wi) (fun c _=>p.e.length - (intOf c).toNat)
      case atStart=>exact⟨0,Nat.zero_le _,rfl,HOB.out⟩
      case round =>
       clear y1
       obtain⟨k,hk,rfl,ho⟩:=hrel
       have HOK:=lh ho
       have HCB:=lh ho.chg'
       have HCW:=lh (HW4.out.trans ho.chg' (by simp))
       have HLK:=lh (HL4.out.chg ho.chg' (by simp))
       clear ho
       by_cases hlt:k<p.e.length
       ·obtain⟨eb,eoff,rfl,rc⟩:=IntsAt.cellAt HPI.out hlt
        have rcell:=HCW.out.cell rc (by simp)
        obtain⟨⟨x0,x1,y0,y1,z0,z1⟩,q0,q1,hr8,hsz⟩:=HBX4.out _ HCB.out
        have hei:=Plain.Pt.edge_in HPE.out (Plain.getD_mem hlt)
        have hge:=Plain.Gr.err_ok (Plain.Pt.err_ok HPE.out).1
        have hjl:=Plain.joinFrom_len s L p q.e k
        have hsl3:(Plain.joinFrom L p q.e s k).all.length<17179869184:=by omega
        have HON:=lh (Plain.joinFrom_on (L:=L) (p:=p) (E:=q.e) (s:=s) (k:=k))
        have HOF:=lh (Plain.joinFrom_off (L:=L) (p:=p) (E:=q.e) (s:=s) (k:=k))
        obtain⟨ed,hed⟩:∃ ed:Nat,p.e.getD k 0=ed:=⟨(p.e.getD k 0).toNat,by omega⟩
        rw[hed] at rcell hei HON HOF
        have IE:I64 (ed:Int):=I64.mk (by omega) (by omega)
        have I2:I64 (2*(ed:Int)):=I64.mk (by omega) (by omega)
        have I3:I64 (2*(ed:Int)+1):=I64.mk (by omega) (by omega)
        have we2:IntKind.i64.wrap (2*(ed:Int))=2*(ed:Int):=IntWalk.i64_in _ (by omega)
        have we3:IntKind.i64.wrap (2*(ed:Int)+1)=2*(ed:Int)+1:=IntWalk.i64_in _ (by omega)
        have hla:=Plain.numOf_i64 HLV.out (2*(ed:Int))
        have hlb2:=Plain.numOf_i64 HLV.out (2*(ed:Int)+1)
        obtain⟨ra,hra⟩:∃ r,Plain.lf L (2*(ed:Int))=r:=⟨_,rfl⟩
        obtain⟨rz,hrz⟩:∃ r,Plain.lf L (2*(ed:Int)+1)=r:=⟨_,rfl⟩
        have HRA:=lh (show (L (2*(ed:Int))).getD 0=ra from hra)
        have HRZ:=lh (show (L (2*(ed:Int)+1)).getD 0=rz from hrz)
        rw[hra,hrz] at HOF
        rw[hra] at hla
        rw[hrz] at hlb2
        have IA:I64 ra:=I64.mk (by omega) (by omega)
        have IZ:I64 rz:=I64.mk (by omega) (by omega)
        clear rc hei hge hjl hed hla hlb2 hra hrz x0 x1 y0 y1 z0 z1 q0 hr8 hsz
        go_wp2_with fail
        refine (has_any _ q.e (ed:Int) _ HQR.out (by omega) (HQI.out.fresh HCW.out)).mono ?_
        rintro e w5 ⟨rfl,hc5⟩
        have HO5:=lh (show Own w4 pb (Plain.joinFrom L p q.e s k) w5 by
         obtain⟨own2,k1,k2,k3⟩:=HOK.out
         exact⟨own2,k1.chg hc5 (by simp),k2.trans hc5 (by simp),k3⟩)
        have HL5:=lh (HLK.out.chg hc5 (by simp))
        clear hc5 q1
        by_cases hon:(ed:Int)∈q.e
        ·have HN:=lh (HON.out hon)
         rw[decide_eq_true hon]
         clear hon
         go_wp2
         go_roundw
         case rel=>exact⟨k+1,by omega,by go_num,by rw[HN.out];exact HO5.out⟩
         case measure=>simp[intOf];omega
        have HN:=lh (HOF.out hon)
        rw[decide_eq_false hon]
        clear hon
        go_wp2_with (first
         | (at_lookup;first
          | refine wp_look _ rfl _ _ rfl HL5.out rfl I2 rfl HRA ?_
          | refine wp_look _ rfl _ _ rfl HL5.out rfl I3 rfl HRZ ?_)
         | fail)
        refine (own_joins IA IZ hsl3 HO5.out).mono ?_
        rintro e w7 ⟨rfl,h7⟩
        have H7:=lh h7
        clear h7
        go_wp2
        go_roundw
        case rel=>exact⟨k+1,by omega,by go_num,by rw[HN.out];exact H7.out⟩
        case measure=>simp[intOf];omega
       have e:k=p.e.length:=by omega
       subst e
       obtain⟨S,hS⟩:∃ S,Plain.joinFrom L p q.e s p.e.length=S:=⟨_,rfl⟩
       have HSE:=lh hS
       rw[hS] at HOK
       have HSL:=lh (show S.all.length<17179869184 by have:=Plain.joinFrom_len s L p q.e p.e.length;rw[hS] at this;omega)
       generalize wr=wa at *
       clear hk hlt hS HOB HCH
       obtain⟨⟨x0,x1,y0,y1,z0,z1⟩,q0,q1,hr8,hsz⟩:=HBX4.out _ HCB.out
       have HSZA:=lh hsz
       have hpv:=PlanVar.made wa (wa.heap.size+1) (wa.heap.size+1)
       have hcb:=(Chg.refl [] wa).alloc (.cells #[.slice none 0 0,.slice none 0 0] 32)
       have HSB:=lh (show (wa.alloc (.cells #[.slice none 0 0,.slice none 0 0] 32)).heap.size=wa.heap.size+1 by simp)
       have z0n:=fun o=>cellNew z0 o
       have HPV0:=lh hpv
       have HCA:=lh hcb
       have HKM:=lh (fun (k:Nat) (hk:k<turn.length)=>Plain.map_take_snoc (f:=fun l=>Plain.first (Plain.keepOf q.e l)) hk)
       have HRT:=lh (show turn.map (fun l=>Plain.first (Plain.keepOf q.e l))=Plain.restTurn q.e turn from rfl)
       have htl1:turn.length<1000000000:=by
        have h1:=HTO.out.len
        have h2:=Plain.Gr.err_ok (Plain.Pt.err_ok HPE.out).1
        omega
       obtain⟨FF,hFF⟩:∃ FF:List Int→List Int,(fun l=>Plain.first (Plain.keepOf q.e l))=FF:=⟨_,rfl⟩
       have HFF:=lh (show ∀ l,FF l=Plain.first (Plain.keepOf q.e l) from fun l=>by rw[←hFF])
       rw[hFF] at HKM HRT
       clear x0 x1 y0 y1 z1 q0 q1 hr8 hsz hpv hcb hFF
       go_wp2
       clear z0n z0
       obtain⟨vb,hvb⟩:∃ vb,wa.heap.size=vb:=⟨_,rfl⟩
       rw[hvb] at HPV0 HSB ⊢
       have HVB:=lh hvb
       clear hvb
       generalize wa.alloc (.cells #[.slice none 0 0,.slice none 0 0] 32)=wb at *
       go_loopw [90] (fun c wr=>∃ k:Nat,k≤turn.length∧c=.int .i64 k∧PlanVar wr vb (vb+1) wr.heap.size ((turn.take k).map FF) []∧Chg [vb] wb wr) (fun c _=>turn.length - (intOf c).toNat)
       case atStart=>exact⟨0,Nat.zero_le _,rfl,by simpa[HSB.out] using HPV0.out,Chg.refl _ _⟩
       case round =>
        obtain⟨k,hk,rfl,hpv,hc⟩:=hrel
        have HV:=lh hpv
        have HC:=lh hc
        have HCAR:=lh (show Chg [] wa wr from HCA.out.trans hc (fun j hj=>Or.inr (by simp at hj;have:=HVB.out;omega)))
        have HCWR:=lh (HCW.out.trans HCAR.out (by simp))
        obtain⟨⟨x0,x1,y0,y1,z0,z1⟩,q0,q1,hr8,hsz⟩:=HBX4.out _ (HCB.out.trans HCAR.out (by simp))
        clear hpv hc x0 x1 y0 y1 z1 q0
        by_cases hlt:k<turn.length
        ·obtain⟨tb,toff,u,rfl,tcell,hcap,hrow⟩:=(HT.out.fresh HCWR.out).rowc hlt
         have HMS:=lh (HKM.out k hlt)
         have hml:((turn.take k).map FF).length<1000000000:=by simp;omega
         have HTD:=lh (show ∀ d∈turn.getD k [],∃ n:Nat,d=n∧n<4294967296 from fun d hd=>by
          obtain⟨h1,-⟩:=HTO.out.row hlt hd
          obtain⟨n,e1,-,e3⟩:=Plain.Pt.dart_nat HPE.out h1
          exact⟨n,e1,by omega⟩)
         have hTl:(turn.getD k []).length<1000000000:=by
          have h1:=Plain.sumLen_mono turn (show k+1≤turn.length by omega)
          have h2:=Nat.le_trans (Nat.le_add_left (turn.getD k []).length (Plain.sumLen turn k)) h1
          have h3:=Plain.sumLen_flat turn turn.length (Nat.le_refl _)
          rw[List.take_length,HTO.out.flat_len (Plain.Pt.ok_of_err HPE.out)] at h3
          omega
         obtain⟨T,hT⟩:∃ T,turn.getD k []=T:=⟨_,rfl⟩
         rw[hT] at hrow hTl HMS HTD
         have HROW:=lh hrow
         have HFT:=lh (HFF.out T)
         obtain⟨uo,uc,rfl,-⟩:=hrow
         obtain⟨L0,hL0⟩:∃ L0,(turn.take k).map FF=L0:=⟨_,rfl⟩
         rw[hL0] at HV HMS hml
         clear hcap hT hL0 hr8 hsz
         go_wp2_with fail
         refine (keep_any (w.heap.size+3) _ (.slice fo q.e.length fc) q.e T _ hTl HTD.out HQR.out (by omega) HROW.out (HQI.out.fresh HCWR.out) q1).mono ?_
         rintro e wk ⟨ov,rfl,hkr,hck⟩
         have HVK:=lh ((HV.out.fresh hck).up (Nat.le_refl wk.heap.size))
         have HKR:=lh hkr
         have HCK:=lh hck
         have HB:=lh (show vb+1≤wk.heap.size by have h1:=hck.size;have h2:=HC.out.size;have h3:=HSB.out;omega)
         have hkl:=Plain.keepOf_len q.e T
         obtain⟨a1,c1,a2,c2,p0,-⟩:=HVK.out.cells
         have HP0:=lh p0
         obtain⟨KT,hKT⟩:∃ KT,Plain.keepOf q.e T=KT:=⟨_,rfl⟩
         rw[hKT] at HKR HFT hkl hkr
         obtain⟨ko,kc,rfl⟩:=hkr.shape
         clear hkr hck tcell q1 hKT z0
         go_wp2
         have hS0:Chg [] wk wk.drew:=(Chg.refl [] wk).drew
         refine wp_region_way (Chg [] wk) [0,1,2] (Way.line [0,1,2,3,4,5,6,7] .done) (by kernel_rfl) (by kernel_rfl) ?_
         simp only[Way.line]
         repeat
          first
           | (refine along_off rfl (by rfl) (by rfl) (fun _ _ _ h=>h) hS0 ?_;simp only[Act.put,Z1,Z2,Z3,Z4,Z5,Z6])
           | (refine along_read (v:=?_) rfl (by rfl) (by rfl) (fun _ _ _ h=>h) hS0 (fun w' hS'=>?_) ?_;rotate_left;(focus (have rd0:=hS'.cell p0 (by simp);clear hS';go_simp;try with_reducible rfl));simp only[Act.put,Z1,Z2,Z3,Z4,Z5,Z6])
           | (refine along_skip rfl (by rfl) (by rfl) hS0 ?_;simp only[Act.put,Z1,Z2,Z3,Z4,Z5,Z6])
         refine along_op rfl (by rfl) (by rfl) (fun K hK=>?_)
         go_simp
         refine (first_any _ KT _ (by omega) (CapOk.row HKR.out) (HKR.out.ints.fresh hS0)).mono ?_
         rintro e w3 ⟨v',rfl,hrv,hcx⟩
         have hS1:=hS0.trans hcx (by simp)
         clear hS0 hcx
         have hS0:=hS1
         clear hS1
         refine hK.out _ _ (fun _=>hS0) ?_
         clear hK K
         try simp only[Act.put,Z1,Z2,Z3,Z4,Z5,Z6]
         obtain⟨vo,vc,rfl⟩:=hrv.shape
         have HRVV:=lh hrv
         have HS3:=lh hS0
         refine along_op rfl (by rfl) (by rfl) (fun K hK=>?_)
         go_simp
         refine hK.out _ _ (fun _=>hS0.alloc _) ?_
         clear hK K hrv
         try simp only[Act.put,Z1,Z2,Z3,Z4,Z5,Z6]
         obtain⟨g5,q5,w5,hr5,hf5,⟨u5,hu5⟩,hv5,own5,hc5,ho5⟩:=(HVK.out.fresh HS3.out).push0 (by have:=HS3.out.size;have:=HB.out;omega) HRVV.out HB.out hml (Or.inl rfl) (HS3.out.cell HP0.out (by simp)) 30
         have HV5:=lh hv5
         have HC5:=lh hc5
         have HO5:=lh ho5
         clear hv5 hc5 ho5
         refine along_op rfl (by rfl) (by rfl) (fun K hK=>?_)
         simp only[List.getElem_toArray,List.getElem_cons_zero,List.getElem_cons_succ]
         refine wp_apprun (.tmp 98) (.tmp 101) 30 rfl rfl rfl hr5 ?_
         refine hK.out _ _ (fun h=>absurd h (Bool.eq_false_iff.1 (by kernel_rfl))) ?_
         clear hK K hr5
         try simp only[Act.put,List.setIfInBounds_toArray,List.set_cons_zero,List.set_cons_succ]
         refine along_op rfl (by rfl) (by rfl) (fun K hK=>?_)
         go_simp
         refine hK.out _ _ (fun h=>absurd h (Bool.eq_false_iff.1 (by kernel_rfl))) ?_
         clear hK K
         try simp only[Act.put,Z1,Z2,Z3,Z4,Z5,Z6]
         refine along_op rfl (by rfl) (by rfl) (fun K hK=>?_)
         go_simp
         refine hK.out _ _ (fun h=>absurd h (Bool.eq_false_iff.1 (by kernel_rfl))) ?_
         clear hK K hu5 hf5 p0 hS0
         try simp only[Act.put,Z1,Z2,Z3,Z4,Z5,Z6]
         refine along_done ?_
         generalize (w5.setCell ⟨vb,0,none⟩ (.slice (some ⟨g5,0,none⟩) (L0.length+1) q5))=w6 at *
         have HC6:=lh (show Chg [vb] wb w6 from (HC.out.trans HCK.out (by simp)).trans ((HS3.out.mono (by simp)).trans HC5.out (fun j hj=>Or.inl hj):Chg own5 wk w6) (fun j hj=>(HO5.out j hj).imp (fun e=>by simp[e]) (fun h=>by have:=HSB.out;omega)))
         go_wp2
         go_roundw
         case rel=>exact⟨k+1,by omega,by go_num,by rw[HMS.out,(HFF.out T).symm.trans HFT.out];exact HV5.out.up (Nat.le_refl _),HC6.out⟩
         case measure=>simp[intOf];omega
        have e:k=turn.length:=by omega
        subst e
        rw[List.take_length,HRT.out] at HV
        generalize wr=wt at *
        clear hk hlt z0 q1 hr8 hsz
        obtain⟨⟨x0,x1,y0,y1,z0,z1⟩,q0,q1,hr8,hsz⟩:=HBX4.out _ (HCB.out.trans HCAR.out (by simp))
        obtain⟨a1,c1,a2,c2,p0,p1,hpl⟩:=HV.out.read
        have HRTO:=lh (Plain.restTurn_ok HTO.out HSUB.out)
        have HRTE:=lh (Plain.turnErr_ok HQE.out HRTO.out)
        have HRR:=lh (show RowsAt wt (.slice a1 (Plain.restTurn q.e turn).length c1) (Plain.restTurn q.e turn) by obtain⟨t1,t2,e,h1,h2⟩:=hpl;simp only[Value.agg.injEq] at e;cases e;exact h1)
        have hrl:(Plain.restTurn q.e turn).length<2147483648:=by unfold Plain.restTurn;rw[List.length_map];exact hTL
        have hrs:Plain.sumLen (Plain.restTurn q.e turn) (Plain.restTurn q.e turn).length<2147483648:=by
         have h3:=Plain.sumLen_flat (Plain.restTurn q.e turn) (Plain.restTurn q.e turn).length (Nat.le_refl _)
         rw[List.take_length,HRTO.out.flat_len (Plain.Pt.ok_of_err HQE.out)] at h3
         omega
        obtain⟨own0,hs0,-,hl0⟩:=HOK.out
        have HSA:=lh hs0
        have HLOW:=lh hl0
        have HOL:=lh (fun j hj=>hs0.lt j hj)
        have HP0:=lh p0
        have HTS:=lh HCAR.out.size
        clear y0 y1 z0 z1 hr8 hsz p1 hpl hs0 hl0 HKM HFF HPV0
        go_wp2_with fail
        refine (walks_any _ _ _ g q (Plain.restTurn q.e turn) _ (by omega) (by omega) hrl hrs (HG.out.fresh HCWR.out) (HQ.out.fresh HCWR.out) HRR.out).mono ?_
        rintro e wu ⟨ow,rfl,-,hw2,hcu⟩
        obtain⟨W,xw,hwk,hnw⟩:=hw2 HRTE.out
        have HWK:=lh hwk
        have HNW:=lh hnw
        have hwl:=hwk.len
        obtain⟨wo,wcap,rfl⟩:=hnw.shape
        have HCU:=lh hcu
        have HCAU:=lh (HCAR.out.trans hcu (by simp))
        have HVU:=lh (HV.out.fresh hcu)
        have hmm:=@run_makeMap Tryz.prog
        rw[HRTE.out]
        clear hw2 hwk hnw hcu p0 q0 q1 x0 x1
        go_wp2
        clear hmm
        have HM0:=lh (SMap.made wu)
        have HCV:=lh ((Chg.refl [] wu).alloc (.map #[] 0))
        have HSV:=lh (show (wu.alloc (.map #[] 0)).heap.size=wu.heap.size+1 by simp)
        have HMB:=lh (heap_alloc_new wu (.map #[] 0))
        obtain⟨mb,hmb⟩:∃ mb,wu.heap.size=mb:=⟨_,rfl⟩
        rw[hmb] at HM0 HSV HMB ⊢
        have HUS:=lh hmb
        have HMV:=lh (show wa.heap.size≤mb by have:=HCAU.out.size;omega)
        clear hmb
        generalize wu.alloc (.map #[] 0)=wv at *
        have HCAV:=lh (HCAU.out.trans HCV.out (by simp))
        obtain⟨CF,hCF⟩:∃ CF:Plain.Face→Int,CF=fun f=>S.head (Plain.lf L (Plain.place turn f)):=⟨_,rfl⟩
        have HCF:=lh (show ∀ f,CF f=S.head (Plain.lf L (Plain.place turn f)) from fun f=>by rw[hCF])
        have HMEM:=lh (show ∀ x∈s.all,x∈S.all from fun x hx=>by rw[←HSE.out];exact Plain.joinFrom_mem hx L p q.e _)
        have HSM:=lh (show ∀ x∈S.all,0≤x∧x<1000000000 by rw[←HSE.out];exact Plain.joinFrom_small HAP.out.small (Plain.numOf_i64 HLV.out) _)
        have HSK:=lh (show S.Ok by rw[←HSE.out];exact Plain.joinFrom_ok HAP.out.ok L p q.e _)
        clear hCF
        go_loopw [120] (fun c wr=>∃ k:Nat,k≤W.length∧c=.int .i64 k∧SMap wr mb k (Plain.keysAt CF (W.take k))∧(∃ own,SetsObj wr pb own S∧∀ j∈own,j∈own0)∧Chg (mb :: own0) wv wr) (fun c _=>W.length - (intOf c).toNat)
        case atStart=>exact⟨0,Nat.zero_le _,rfl,HM0.out,⟨own0,HSA.out.chg HCAV.out (by simp),fun j hj=>hj⟩,Chg.refl _ _⟩
        case round =>
         obtain⟨k,hk,rfl,hsm,⟨own,hso,hos⟩,hcr⟩:=hrel
         have HSMR:=lh hsm
         have HSO:=lh hso
         have HOS:=lh hos
         have HCR:=lh hcr
         have HCAW:=lh (show Chg own0 wa wr from (HCAV.out.mono (by simp)).trans hcr (fun j hj=>(List.mem_cons.1 hj).elim (fun e=>Or.inr (by have:=HMV.out;omega)) Or.inl))
         have HC4R:=lh (show Chg [] w4 wr from HCB.out.trans HCAW.out (fun j hj=>Or.inr (HLOW.out j hj)))
         clear hsm hso hos hcr
         by_cases hlt:k<W.length
         ·obtain⟨wg,wcc,fa,fc,ewo,u0,u1,ur⟩:=nest_face HNW.out rfl hlt
          simp only[Value.slice.injEq] at ewo
          obtain⟨rfl,-,rfl⟩:=ewo
          have hwg:=HNW.out.out.lt wg rfl
          have hng:wg ∉ mb :: own0:=fun hm=>(List.mem_cons.1 hm).elim (fun e=>by have:=HUS.out;omega) (fun h=>by have:=HOL.out _ h;have:=HTS.out;omega)
          have hcuw:=(HCV.out.mono (by simp)).trans HCR.out (fun j hj=>Or.inl hj)
          have f0:=hcuw.cell u0 hng
          have f1:=hcuw.cell u1 hng
          have hfm:W.getD k (0,[])∈W:=by simp[List.getD,hlt]
          obtain⟨z,hpz,IZ,hLz,IK,hcase⟩:=Plain.rest_face HPE.out HTO.out HSUB.out HSUV.out HLL.out HLO.out HWK.out hfm
          have hts:W.take (k+1)=W.take k++[W.getD k (0,[])]:=by rw[List.take_succ_eq_append_getElem hlt];simp[List.getD,hlt]
          have HKS:=lh (show Plain.keysAt CF (W.take (k+1))=fun y=>if y=CF (W.getD k (0,[])) then Plain.keysAt CF (W.take k) (CF (W.getD k (0,[])))++[(W.getD k (0,[])).1] else Plain.keysAt CF (W.take k) y by rw[hts];funext y;exact Plain.keysAt_snoc _ _ _ _)
          have hcf:=HCF.out (W.getD k (0,[]))
          rw[hpz] at hcf
          have hin:Plain.lf L z∈S.all:=HMEM.out _ (HAP.out.met z IZ hLz rfl)
          obtain⟨rg,hrg⟩:∃ rg,Plain.lf L z=rg:=⟨_,rfl⟩
          have HRR:=lh (show (L z).getD 0=rg from hrg)
          rw[hrg] at hin hcf
          have HIN:=lh hin
          have hrs:=HSM.out _ hin
          have hhs:=HSM.out _ (St.head_mem HSK.out hin)
          have IR:I64 rg:=I64.mk (by omega) (by omega)
          have IH:I64 (CF (W.getD k (0,[]))):=by rw[hcf];exact I64.mk (by omega) (by omega)
          have HHE:=lh hcf.symm
          obtain⟨f,hf⟩:∃ f,W.getD k (0,[])=f:=⟨_,rfl⟩
          rw[hf] at f0 f1 hcase HKS IH IK HHE
          obtain⟨fk,fd⟩:=f
          dsimp only at f0 f1 hcase HKS IK
          obtain⟨hd,hhd⟩:∃ hd,CF (fk,fd)=hd:=⟨_,rfl⟩
          rw[hhd] at HKS IH HHE
          clear u0 u1 ur hwg hng hcuw hfm hpz hLz hts hcf hin hrg hrs hhs hf hhd
          obtain⟨⟨x0,x1,y0,y1,z0,z1⟩,q0,q1,hr8,hsz⟩:=HBX4.out _ HC4R.out
          have z0n:=fun o=>cellNew z0 o
          have HTQ:=lh (HT.out.fresh (HW4.out.trans HC4R.out (by simp)))
          clear x0 x1 y0 y1 z1 q0 q1 hr8 hsz
          obtain⟨fn,hfn⟩:∃ fn,fd.length=fn:=⟨_,rfl⟩
          rw[hfn] at f1 hcase
          have hbx:=(Chg.refl [] wr).alloc (.cells #[.int .i64 fk,.slice fa fn fc] 120)
          have hnew:=heap_alloc_new wr (.cells #[.int .i64 fk,.slice fa fn fc] 120)
          have B0:=lh ((cell_of_row _ _ 0 _ _ _ hnew).trans (show _=some (Value.int .i64 fk) from rfl))
          have HCQ:=lh hbx
          have HSQ:=lh (HSO.out.chg hbx (by simp))
          have HSMQ:=lh (HSMR.out.fresh hbx)
          have HWQ:=lh (show wr.heap.size ∉ own from fun hm=>by have h1:=HOL.out _ (HOS.out _ hm);have h2:=HCAW.out.size;omega)
          have HLQ:=lh (HL4.out.chg (HC4R.out.trans hbx (by simp)) (by simp))
          clear hbx hnew
          rcases hcase with ⟨hnil,n,hn1,hn2,hn3,hn4⟩ | ⟨hpos,hzz⟩
          ·have bz:((fn:Int)==0)=true:=by rw[←hfn,hnil];rfl
           have wn:IntKind.i64.wrap (-1 - fk)=(n:Int):=by rw[hn3,show -1 - (-1 - (n:Int))=n by omega];exact IntWalk.i64_in _ (by omega)
           obtain⟨tb,toff,uo,uc,rfl,tcell,hrow⟩:=HTQ.out.row hn1
           have HROW:=lh hrow
           rcases hn4 with ⟨he,hzz⟩ | ⟨hl,hzz⟩
           ·have hzz:=hzz.symm
            subst hzz
            rw[he] at tcell
            have tn:=fun o=>cellNew tcell o
            clear hrow he hn3 HROW hfn hnil
            go_wp2_with (first
             | (at_lookup;refine wp_look _ rfl _ _ rfl HLQ.out rfl IZ rfl HRR.out ?_)
             | fail)
            refine (head_keep pb own S rg _ IR HIN.out HSL.out HSQ.out).mono ?_
            rintro e wh ⟨rfl,own2,hso2,hch2,hsub2⟩
            obtain⟨wbk,hwb⟩:∃ wbk,wr.heap.size=wbk:=⟨_,rfl⟩
            rw[hwb] at B0 HWQ ⊢
            generalize (wr.alloc (.cells #[.int .i64 fk,.slice fa fn fc] 120))=wq at *
            clear f0 f1 z0 z0n tcell tn hwb
            have HCH2:=lh hch2
            have HSO2:=lh hso2
            have HSB2:=lh hsub2
            have b0:=hch2.cell B0.out (by simpa using HWQ.out)
            have HSMH:=lh (HSMQ.out.low hch2 (fun j hj=>by have:=HOL.out j (HOS.out j hj);have:=HMV.out;omega))
            rw[HHE.out]
            clear hso2 hch2 hsub2
            go_wp2_with (first
             | (at_lookup;refine wl_slook rfl _ _ rfl HSMH.out (by omega) rfl IH rfl ?_;intro v1 r1 l1 b1;have R1:=lh r1;have L1:=lh l1;have BK:=lh b1;clear r1 l1 b1)
             | (at_builtin;refine wl_app_read rfl _ _ rfl (B:=mb+1) rfl rfl (R1.out.chg ((Chg.refl [] _).alloc _) (by simp)) (lit_ints _ IK) (by have:=HSMH.out.lt;simp;omega) (by have:=L1.out;simp;omega) ?_;intro u2 w5 q3 c3 f3;have Q3:=lh q3;have D3:=lh (((Chg.refl (foot v1) wh).alloc (.cells #[.int .i64 fk] 3)).trans c3 (fun j hj=>Or.inl hj));have F3:=lh (fun j hj=>(f3 j hj).imp id (fun h=>Nat.le_trans ((Chg.refl [] wh).alloc (.cells #[.int .i64 fk] 3)).size h));clear q3 c3 f3)
             | (at_mapUpdate;refine wl_sback rfl _ _ _ rfl BK.out rfl rfl rfl Q3.out D3.out F3.out ?_;intro w6 s6 d6;have S6:=lh s6;have D6:=lh d6;clear s6 d6))
            have HFT:=lh (fun j (hj:j∈foot v1)=>(show mb+1≤j from (R1.out.low j (by rw[←R1.out.foot];exact hj)).1))
            have HCF6:=lh (show Chg (mb :: own0) wv w6 from ((((HCR.out.trans HCQ.out (by simp)).trans HCH2.out (fun j hj=>Or.inl (List.mem_cons_of_mem _ (HOS.out j hj)))).trans D3.out (fun j hj=>Or.inr (by have:=HFT.out j hj;have:=HSV.out;omega))).trans D6.out (fun j hj=>Or.inl (by simp at hj;simp[hj]))))
            have HS6:=lh (show ∃ own3,SetsObj w6 pb own3 S∧∀ j∈own3,j∈own0 from⟨own2,(HSO2.out.chg D3.out (fun j hj hm=>by have h1:=HFT.out j hm;have h2:=HOL.out j (HOS.out j (HSB2.out j hj));have h3:=HMV.out;omega)).chg D6.out (fun j hj hm=>by simp at hm;have h2:=HOL.out j (HOS.out j (HSB2.out j hj));have h3:=HMV.out;omega),fun j hj=>HOS.out j (HSB2.out j hj)⟩)
            go_wp2
            go_roundw
            case rel=>exact⟨k+1,by omega,by go_num,by rw[HKS.out];exact S6.out,HS6.out,HCF6.out⟩
            case measure=>simp[intOf];omega
           obtain⟨T,hT⟩:∃ T,turn.getD n []=T:=⟨_,rfl⟩
           rw[hT] at tcell hl hzz HROW
           obtain⟨qb,qoff,rfl,qc⟩:=IntsAt.cellAt HROW.out hl
           have bl:decide ((T.length:Int) > 0)=true:=decide_eq_true (by omega)
           rw[←hzz,Nat.add_zero] at qc
           have tn:=fun o=>cellNew tcell o
           have qn:=fun o=>cellNew qc o
           clear hrow hn3 hT hzz hfn hnil
           go_wp2_with (first
            | (at_lookup;refine wp_look _ rfl _ _ rfl HLQ.out rfl IZ rfl HRR.out ?_)
            | fail)
           refine (head_keep pb own S rg _ IR HIN.out HSL.out HSQ.out).mono ?_
           rintro e wh ⟨rfl,own2,hso2,hch2,hsub2⟩
           obtain⟨wbk,hwb⟩:∃ wbk,wr.heap.size=wbk:=⟨_,rfl⟩
           rw[hwb] at B0 HWQ ⊢
           generalize (wr.alloc (.cells #[.int .i64 fk,.slice fa fn fc] 120))=wq at *
           clear f0 f1 z0 z0n tcell tn qc qn hwb
           have HCH2:=lh hch2
           have HSO2:=lh hso2
           have HSB2:=lh hsub2
           have b0:=hch2.cell B0.out (by simpa using HWQ.out)
           have HSMH:=lh (HSMQ.out.low hch2 (fun j hj=>by have:=HOL.out j (HOS.out j hj);have:=HMV.out;omega))
           rw[HHE.out]
           clear hso2 hch2 hsub2
           go_wp2_with (first
            | (at_lookup;refine wl_slook rfl _ _ rfl HSMH.out (by omega) rfl IH rfl ?_;intro v1 r1 l1 b1;have R1:=lh r1;have L1:=lh l1;have BK:=lh b1;clear r1 l1 b1)
            | (at_builtin;refine wl_app_read rfl _ _ rfl (B:=mb+1) rfl rfl (R1.out.chg ((Chg.refl [] _).alloc _) (by simp)) (lit_ints _ IK) (by have:=HSMH.out.lt;simp;omega) (by have:=L1.out;simp;omega) ?_;intro u2 w5 q3 c3 f3;have Q3:=lh q3;have D3:=lh (((Chg.refl (foot v1) wh).alloc (.cells #[.int .i64 fk] 3)).trans c3 (fun j hj=>Or.inl hj));have F3:=lh (fun j hj=>(f3 j hj).imp id (fun h=>Nat.le_trans ((Chg.refl [] wh).alloc (.cells #[.int .i64 fk] 3)).size h));clear q3 c3 f3)
            | (at_mapUpdate;refine wl_sback rfl _ _ _ rfl BK.out rfl rfl rfl Q3.out D3.out F3.out ?_;intro w6 s6 d6;have S6:=lh s6;have D6:=lh d6;clear s6 d6))
           have HFT:=lh (fun j (hj:j∈foot v1)=>(show mb+1≤j from (R1.out.low j (by rw[←R1.out.foot];exact hj)).1))
           have HCF6:=lh (show Chg (mb :: own0) wv w6 from ((((HCR.out.trans HCQ.out (by simp)).trans HCH2.out (fun j hj=>Or.inl (List.mem_cons_of_mem _ (HOS.out j hj)))).trans D3.out (fun j hj=>Or.inr (by have:=HFT.out j hj;have:=HSV.out;omega))).trans D6.out (fun j hj=>Or.inl (by simp at hj;simp[hj]))))
           have HS6:=lh (show ∃ own3,SetsObj w6 pb own3 S∧∀ j∈own3,j∈own0 from⟨own2,(HSO2.out.chg D3.out (fun j hj hm=>by have h1:=HFT.out j hm;have h2:=HOL.out j (HOS.out j (HSB2.out j hj));have h3:=HMV.out;omega)).chg D6.out (fun j hj hm=>by simp at hm;have h2:=HOL.out j (HOS.out j (HSB2.out j hj));have h3:=HMV.out;omega),fun j hj=>HOS.out j (HSB2.out j hj)⟩)
           go_wp2
           go_roundw
           case rel=>exact⟨k+1,by omega,by go_num,by rw[HKS.out];exact S6.out,HS6.out,HCF6.out⟩
           case measure=>simp[intOf];omega
          have hzz:=hzz.symm
          subst hzz
          have bz:((fn:Int)==0)=false:=by simp;omega
          clear hfn
          go_wp2_with (first
           | (at_lookup;refine wp_look _ rfl _ _ rfl HLQ.out rfl IZ rfl HRR.out ?_)
           | fail)
          refine (head_keep pb own S rg _ IR HIN.out HSL.out HSQ.out).mono ?_
          rintro e wh ⟨rfl,own2,hso2,hch2,hsub2⟩
          obtain⟨wbk,hwb⟩:∃ wbk,wr.heap.size=wbk:=⟨_,rfl⟩
          rw[hwb] at B0 HWQ ⊢
          generalize (wr.alloc (.cells #[.int .i64 fk,.slice fa fn fc] 120))=wq at *
          clear f0 f1 z0 z0n hwb
          have HCH2:=lh hch2
          have HSO2:=lh hso2
          have HSB2:=lh hsub2
          have b0:=hch2.cell B0.out (by simpa using HWQ.out)
          have HSMH:=lh (HSMQ.out.low hch2 (fun j hj=>by have:=HOL.out j (HOS.out j hj);have:=HMV.out;omega))
          rw[HHE.out]
          clear hso2 hch2 hsub2
          go_wp2_with (first
           | (at_lookup;refine wl_slook rfl _ _ rfl HSMH.out (by omega) rfl IH rfl ?_;intro v1 r1 l1 b1;have R1:=lh r1;have L1:=lh l1;have BK:=lh b1;clear r1 l1 b1)
           | (at_builtin;refine wl_app_read rfl _ _ rfl (B:=mb+1) rfl rfl (R1.out.chg ((Chg.refl [] _).alloc _) (by simp)) (lit_ints _ IK) (by have:=HSMH.out.lt;simp;omega) (by have:=L1.out;simp;omega) ?_;intro u2 w5 q3 c3 f3;have Q3:=lh q3;have D3:=lh (((Chg.refl (foot v1) wh).alloc (.cells #[.int .i64 fk] 3)).trans c3 (fun j hj=>Or.inl hj));have F3:=lh (fun j hj=>(f3 j hj).imp id (fun h=>Nat.le_trans ((Chg.refl [] wh).alloc (.cells #[.int .i64 fk] 3)).size h));clear q3 c3 f3)
           | (at_mapUpdate;refine wl_sback rfl _ _ _ rfl BK.out rfl rfl rfl Q3.out D3.out F3.out ?_;intro w6 s6 d6;have S6:=lh s6;have D6:=lh d6;clear s6 d6))
          have HFT:=lh (fun j (hj:j∈foot v1)=>(show mb+1≤j from (R1.out.low j (by rw[←R1.out.foot];exact hj)).1))
          have HCF6:=lh (show Chg (mb :: own0) wv w6 from ((((HCR.out.trans HCQ.out (by simp)).trans HCH2.out (fun j hj=>Or.inl (List.mem_cons_of_mem _ (HOS.out j hj)))).trans D3.out (fun j hj=>Or.inr (by have:=HFT.out j hj;have:=HSV.out;omega))).trans D6.out (fun j hj=>Or.inl (by simp at hj;simp[hj]))))
          have HS6:=lh (show ∃ own3,SetsObj w6 pb own3 S∧∀ j∈own3,j∈own0 from⟨own2,(HSO2.out.chg D3.out (fun j hj hm=>by have h1:=HFT.out j hm;have h2:=HOL.out j (HOS.out j (HSB2.out j hj));have h3:=HMV.out;omega)).chg D6.out (fun j hj hm=>by simp at hm;have h2:=HOL.out j (HOS.out j (HSB2.out j hj));have h3:=HMV.out;omega),fun j hj=>HOS.out j (HSB2.out j hj)⟩)
          go_wp2
          go_roundw
          case rel=>exact⟨k+1,by omega,by go_num,by rw[HKS.out];exact S6.out,HS6.out,HCF6.out⟩
          case measure=>simp[intOf];omega
         have e:k=W.length:=by omega
         subst e
         rw[List.take_length] at HSMR
         generalize wr=wx at *
         clear hk hlt
         have HVX:=lh (show PlanVar wx vb (vb+1) wx.heap.size (Plain.restTurn q.e turn) [] from ((HVU.out.fresh HCV.out).mix HCR.out (fun j hj=>(List.mem_cons.1 hj).elim (fun e=>by
          rw[e]
          exact⟨by have:=HVU.out.lt;have:=HUS.out;omega,Or.inr (fun cs u r h=>by rw[HMB.out] at h;cases h)⟩) (fun h=>by
          have h1:=HOL.out j h
          have h2:=HVB.out
          exact⟨by omega,Or.inl (by omega)⟩))).up (Nat.le_refl _))
         have HVM:=lh (show vb<mb by have:=HVU.out.lt;have:=HUS.out;omega)
         have HKY:=lh (Plain.walks_keys HQE.out HWK.out)
         have HIN:=lh (show ∀ f∈W,Plain.lf L (Plain.place turn f)∈S.all from fun f hf=>by
          obtain⟨z,e1,iz,hLz,-,-⟩:=Plain.rest_face HPE.out HTO.out HSUB.out HSUV.out HLL.out HLO.out HWK.out hf
          rw[e1]
          exact HMEM.out _ (HAP.out.met z iz hLz rfl))
         have HCI:=lh (show ∀ h,Plain.keysAt CF W h≠[]→I64 h from fun h hne=>by
          unfold Plain.keysAt at hne
          obtain⟨f,hf⟩:=List.exists_mem_of_ne_nil (W.filter fun x=>decide (CF x=h)) (fun e=>hne (by rw[e];rfl))
          obtain⟨h1,h2⟩:=List.mem_filter.1 hf
          have h3:CF f=h:=of_decide_eq_true h2
          have h4:=HSM.out _ (St.head_mem HSK.out (HIN.out f h1))
          rw[←HCF.out,h3] at h4
          exact I64.mk (by omega) (by omega))
         have HGR:=lh (show Plain.grps CF W=Plain.restSame g p q turn same by
          unfold Plain.restSame
          rw[HLE.out,←HWK.out.eq HQE.out]
          refine Plain.grps_congr fun x hx y hy=>?_
          rw[HCF.out,HCF.out,St.head_iff HSK.out (HIN.out x hx) (HIN.out y hy),Plain.restCls_iff,←HSE.out]
          exact Plain.joinFrom_rel HAP.out.ok HAP.out.rel L p q.e _ _ _)
         have HKL:=lh (show ∀ h,(Plain.keysAt CF W h).length≤W.length from fun h=>by unfold Plain.keysAt;rw[List.length_map];exact List.length_filter_le _ _)
         have HWS:=lh (show w4.heap.size≤vb by have:=HCB.out.size;have:=HVB.out;omega)
         obtain⟨D,ho,hD⟩:=HSMR.out
         have HDD:=lh hD
         obtain⟨es,clock,hm1,hF,hs1,hDe,-⟩:=ho
         have hown:wx.ownsMap Tryz.prog 3 (rowElem (H:=Unit) wx (mb+1) 3 .i64) mb W.length D:=⟨es,clock,hm1,hF,hs1,hDe⟩
         have HMX:=lh (show mb<wx.heap.size from HSMR.out.lt)
         obtain⟨TT,hTT⟩:∃ TT,Plain.restTurn q.e turn=TT:=⟨_,rfl⟩
         rw[hTT] at HVX
         have HTT:=lh hTT
         clear hm1 hF hs1 hDe hD hTT
         go_wp2_with (at_range;refine wpList_range_own _ rfl _ 119 rfl 3 27 keyedInt Tryz.underlying119 _ mb W.length D rfl hown ?_;intro w9 hrg0 hg0 hs0)
         go_frame
         have hc9:=(Chg.refl [] wx).grown hg0 (fun j hj=>by cases hj)
         have HV9:=lh ((HVX.out.fresh hc9).up (Nat.le_refl w9.heap.size))
         have HC49:=lh (HC4R.out.trans hc9 (by simp))
         have HST9:=lh (IntsStay.chg hc9 (by simp))
         obtain⟨rb2,hrb2⟩:∃ r,wx.heap.size=r:=⟨_,rfl⟩
         rw[hrb2] at hrg0 HMX ⊢
         have HGO:=lh (Plain.Got.start (c:=CF) (W:=W) (left:=fun x=>Maps.has D (.int .i64 x)) (fun x ix hx=>(HDD.out x ix).elim (·.1) (fun h=>by rw[atKey_of_not_has hx] at h;cases h)))
         clear hg0 hs0 hown hrb2 hc9
         go_loopw [30] (fun _ wi=>∃ (left:Lit→Bool) (cnt:Nat) (C:List (List Int)),wi.ranges Tryz.prog 3 (rowElem (H:=Unit) wx (mb+1) 3 .i64) mb rb2 W.length D left cnt∧PlanVar wi vb (vb+1) wi.heap.size TT C∧Chg [] w4 wi∧IntsStay wx wi∧Hid (Plain.Got CF W (fun x=>left (.int .i64 x)) C)) (fun _ wi=>wi.rangeLeft mb rb2)
         case atStart=>exact⟨_,_,[],hrg0,HV9.out,HC49.out,HST9.out,HGO⟩
         case round =>
          obtain⟨left,cnt,C,hrg,hpv,hc4,hst,hgo⟩:=hrel
          have HPVC:=lh hpv
          have HC4W:=lh hc4
          have HSTW:=lh hst
          have HKD:=lh (ranges_kind hrg)
          have hcl:=hgo.out.len
          clear hpv hc4 hst
          go_wp2_with (at_next;refine wpList_next_ranges _ rfl _ rfl 3 keyedInt _ (Value.int .i64) id (fun key kl h=>by obtain⟨x,e,-,-⟩:=Maps.keyOf_int_inv Tryz.underlying3 h;exact⟨x,e⟩) (fun v y _=>⟨v,rfl⟩) mb rb2 W.length _ _ _ rfl hrg ?_ ?_)
          ·intro hc0 hl0
           have HGF:=lh (show Plain.Got CF W (fun _=>false) C by have h:=hgo.out;rwa[show (fun x=>left (.int .i64 x))=fun _=>false from funext fun x=>hl0 _] at h)
           have HNE:=lh (show ∀ l∈C,l≠[] from fun l hl e=>by obtain⟨x,-,-,-,h⟩:=(HGF.out.mem l).1 hl;rw[e] at h;simp at h)
           obtain⟨a1,c1,a2,c2,p0,p1⟩:=HPVC.out.cells
           have HP1:=lh p1
           clear hrg hgo hl0 hc0
           go_wp2_with fail
           refine (HPVC.out.sorts HNE.out (by omega) HP1.out).mono ?_
           rintro e ws ⟨rfl,s',hv',hp',ho',own',hch',hlow'⟩
           have hse:s'=Plain.restSame g p q turn same:=by
            rw[←HGR.out]
            refine Plain.grps_of HKY.out HGF.out.nodup (fun l=>(HGF.out.mem l).trans ⟨fun ⟨h,_,_,h1,h2⟩=>⟨h,h1,h2⟩,fun ⟨h,h1,h2⟩=>⟨h,HCI.out h (fun e=>by rw[h1,e] at h2;simp at h2),rfl,h1,h2⟩⟩) hp' ho'
           have HVS:=lh hv'
           have HC4S:=lh (show Chg [] w4 ws from HC4W.out.trans hch' (fun j hj=>Or.inr (by have:=hlow' j hj;have:=HWS.out;omega)))
           have HSE2:=lh hse
           clear p0 p1 hp' ho' hch' hlow' hse hv'
           obtain⟨a1,c1,a2,c2,p0,p1⟩:=HVS.out.cells
           obtain⟨⟨x0,x1,y0,y1,z0,z1⟩,q0,q1,hr8,hsz⟩:=HBX4.out _ HC4S.out
           have HR8S:=lh hr8
           have P0:=lh p0
           have P1:=lh p1
           have r0:=(cell_of_row _ _ 0 _ _ _ hr8).trans (show _=some (Value.slice none 0 0) from rfl)
           have r1:=(cell_of_row _ _ 1 _ _ _ hr8).trans (show _=some (Value.slice none 0 0) from rfl)
           have f0:=free_at hr8 0
           have f1:=free_at hr8 1
           have HSZS:=lh (show w.heap.size+4<vb by have:=HSZA.out;have:=HVB.out;omega)
           clear hr8 x0 x1 y0 y1 z0 z1 q0 q1 hsz
           go_wp2
           obtain⟨o0,o1,o2⟩:=out_store HR8S.out (.slice a1 TT.length c1) (.slice a2 s'.length c2)
           have hvl:=HVS.out.low o2 (fun j hj=>by have:j=w.heap.size+4:=(by simpa using hj);have:=HSZS.out;omega)
           have p00:=o2.cell P0.out (by have:=HSZS.out;simp;omega)
           have p11:=o2.cell P1.out (by have:=HSZS.out;simp;omega)
           have hwv:w.heap.size<vb:=by have:=HSZS.out;omega
           have hfin:=fun own wx (hcx:Chg own _ wx) (hlw:∀ j∈own,j<w.heap.size)=>(hvl.low hcx (fun j hj=>⟨Nat.lt_succ_of_lt (Nat.lt_trans (hlw j hj) hwv),Nat.ne_of_lt (Nat.lt_trans (hlw j hj) hwv)⟩)).readAt (hcx.cell p00 (fun hm=>Nat.lt_asymm (hlw _ hm) hwv)) (hcx.cell p11 (fun hm=>Nat.lt_asymm (hlw _ hm) hwv))
           refine bodyPost_ret (v:=.tuple #[.agg #[.slice a1 TT.length c1,.slice a2 s'.length c2],.int .i64 0]) (by simp[results,Tryz.results39,go_sem,o0,o1]) rfl ?_
           exact⟨_,by rw[HR0.out],fun h=>absurd HR0.out h,fun _ own wx h1 h2=>by rw[HTT.out,←HSE2.out];exact hfin own wx h1 h2,(HW4.out.trans HC4S.out (by simp)).trans o2 (fun j hj=>Or.inr (by simp at hj;omega))⟩
          intro x c kl y1 y2 w7 cnt1 hkey hlx hR hat hrg1 hlt1 hg1 hs1 hen
          obtain⟨x',ex,rfl,hwx⟩:=Maps.keyOf_int_inv Tryz.underlying3 hkey
          cases ex
          obtain⟨zs,hoi,hyy⟩:=rowElem_inv hR
          have hze:=SMap.list (HDD.out x hwx) ((hat .nil).trans (congrArg Prod.fst hyy)) hoi
          subst hze
          have hc7:Chg [rb2] wr w7:=(Chg.refl _ wr).grown hg1 (fun j hj=>by cases hj;exact Or.inl (by simp))
          have hkl:=HKL.out x
          have HROW:=lh ((HSTW.out.trans (IntsStay.chg hc7 (fun j hj cs r=>by rw[List.mem_singleton.1 hj];exact HKD.out.2 cs _ r))).row (owns_row hoi (by omega)))
          have HST7:=lh (HSTW.out.trans (IntsStay.chg hc7 (fun j hj cs r=>by rw[List.mem_singleton.1 hj];exact HKD.out.2 cs _ r)))
          have HV7:=lh ((HPVC.out.mix hc7 (fun j hj=>by rw[List.mem_singleton.1 hj];exact⟨by have:=HMX.out;have:=HVM.out;omega,Or.inr HKD.out.2⟩)).up (Nat.le_refl w7.heap.size))
          have HC47:=lh (show Chg [] w4 w7 from HC4W.out.trans hc7 (fun j hj=>Or.inr (by rw[List.mem_singleton.1 hj];have:=HMX.out;have:=HVM.out;have:=HWS.out;omega)))
          have HRG1:=lh hrg1
          have HKD7:=lh (ranges_kind hrg1)
          have HRL:=lh hrg.left_eq
          have HLE1:=lh hlt1
          have HLX:=lh hlx
          have HGG:=lh hgo.out
          have HWX:=lh hwx
          have hfe:(fun z:Int=>left (.int .i64 z)&&!decide (z=x))=fun z:Int=>left (.int .i64 z)&&!(Lit.int .i64 z).sameKey (.int .i64 x):=funext fun z=>by rw[litSame]
          have HFE:=lh hfe
          obtain⟨KL,hKL⟩:∃ KL,Plain.keysAt CF W x=KL:=⟨_,rfl⟩
          have HKE:=lh hKL
          rw[hKL] at HROW hkl
          obtain⟨ko,kc,rfl⟩:=HROW.out.shape
          clear hkey hR hat hoi hc7 hfe hKL hlx hg1 hs1 hrg1 hrg hgo hlt1 hwx
          by_cases h1:1<KL.length
          ·have bl:decide ((KL.length:Int) > 1)=true:=decide_eq_true (by omega)
           have hne:KL≠[]:=by intro e;rw[e] at h1;simp at h1
           obtain⟨a1,c1,a2,c2,-,p1⟩:=HV7.out.cells
           have HP1:=lh p1
           have hvw:vb+1≤w7.heap.size:=by have:=HV7.out.lt;omega
           obtain⟨g5,q5,w5,hr5,hf5,⟨u5,hu5⟩,hv5,own5,hc5,ho5⟩:=HV7.out.push1h hvw ⟨owns_base HROW.out.1 (by have:=HVM.out;omega),HROW.out.2⟩ hne (by have h:=HGG.out.heads HKY.out HLX.out (by rw[HKE.out];exact hne);rw[HKE.out] at h;exact h) (by omega) (Or.inl rfl) HP1.out 30
           have HV5:=lh hv5
           have HC5:=lh hc5
           have HO5:=lh ho5
           have HGM:=lh (HGG.out.more HKY.out HWX.out HLX.out (by rw[HKE.out];exact h1))
           rw[HKE.out,HFE.out] at HGM
           clear hv5 hc5 ho5 hvw
           go_wp2_with (first
            | (at_builtin;refine wl_apprun rfl _ _ 30 rfl rfl rfl hr5 ?_)
            | fail)
           clear hf5 hu5 hr5 p1
           generalize (w5.setCell ⟨vb,1,none⟩ (.slice (some ⟨g5,0,none⟩) (C.length+1) q5))=w6 at *
           have hrg6:=ranges_at HRG1.out HC5.out (fun hm=>(HO5.out _ hm).elim (fun e=>by have:=HVM.out;omega) (fun ⟨_,cs,r,h⟩=>HKD7.out.1 cs _ r h)) (fun hm=>(HO5.out _ hm).elim (fun e=>by have:=HVM.out;have:=HMX.out;omega) (fun ⟨_,cs,r,h⟩=>HKD7.out.2 cs _ r h))
           have hv7h:=HV7.out.ex
           have hst6:IntsStay w7 w6:=IntsStay.chg HC5.out (fun j hj cs r h=>(HO5.out j hj).elim (fun e=>by
            obtain⟨o1,v1,o2,v2,hh,-⟩:=hv7h
            rw[e,hh] at h
            simp at h) (fun ⟨_,cs2,r2,h2⟩=>by rw[h2] at h;simp at h))
           go_roundw
           case rel=>exact⟨_,cnt1,_,hrg6,HV5.out.up (Nat.le_refl _),HC47.out.trans HC5.out (fun j hj=>Or.inr ((HO5.out j hj).elim (fun e=>by have:=HWS.out;omega) (fun h=>by have:=HWS.out;omega))),HST7.out.trans hst6,HGM⟩
           case measure=>rw[hrg6.left_eq,HRL.out];exact HLE1.out
          have bl:decide ((KL.length:Int) > 1)=false:=decide_eq_false (by omega)
          have HGM:=lh (HGG.out.skip (x:=x) (by rw[HKE.out];exact h1))
          rw[HFE.out] at HGM
          go_wp2
          go_roundw
          case rel=>exact⟨_,cnt1,_,HRG1.out,HV7.out,HC47.out,HST7.out,HGM⟩
          case measure=>rw[HRG1.out.left_eq,HRL.out];exact HLE1.out
     intro x c w7 cnt1 hwx hwc hlx hat hrg1 hlt1 hg1 hs1 hen
     have hxs:(L x).isSome=true:=by have:=hlh.out _ hlx;rw[(HDM.out x hwx).1] at this;exact this
     have hcx:Plain.lf L x=c:=by have h1:=(HDM.out x hwx).2;rw[hat] at h1;simpa[Plain.lf] using h1.symm
     have hcs:=Plain.numOf_i64 HLV.out x
     rw[hcx] at hcs
     have HAP:=lh (hst.out.put hcx hcs)
     have HLH:=lh (fun z (hz:(left z&&!z.sameKey (.int .i64 x))=true)=>hlh.out z (by simp at hz;exact hz.1))
     have hc7:Chg [rb] wr w7:=(Chg.refl _ wr).grown hg1 (fun j hj=>by cases hj;exact Or.inl (by simp))
     have HS7:=lh (HSN'.out.chg hc7 (fun j hj=>Or.inr (by simpa using hj)))
     have HC7:=lh (HCH.out.trans hc7 (fun j hj=>Or.inr (by simp at hj;have:=HRB.out;omega)))
     have HRG1:=lh hrg1
     have HRL:=lh hrg.left_eq
     have hsl:s.all.length<34359738368:=by have:=hst.out.len;omega
     clear hxs hcx hcs hc7 hlh hst hlx hat hg1 hs1 hrg1 hrg
     go_wp2_with fail
     refine (HS7.out.add hwc hsl).mono ?_
     rintro e w8 ⟨rfl,hsn8,l,hcl,hll⟩
     have HS8:=lh hsn8
     have HR8':=lh (ranges_chg HRG1.out hcl (fun h=>by have:=(hll _ h).1;have:=HLT.out;omega) (fun h=>(hll _ h).2.2 rfl))
     have HC8:=lh (HC7.out.trans hcl (fun j hj=>Or.inr (hll j hj).1))
     clear hsn8 hcl hll
     go_wp2
     go_roundw
     case rel=>exact⟨_,cnt1,_,HR8'.out,HS8.out,HC8.out,HLH,HAP⟩
     case measure=>rw[HR8'.out.left_eq,HRL.out];exact hlt1
  have HR4:=lh (restErr_four (q:=q) HPZ.out (fun h=>hqe h.1))
  have hb1:(q.err g != 0)=true:=by simpa using hqe
  obtain⟨er,her⟩:∃ er,q.err g=er:=⟨_,rfl⟩
  rw[her] at hb1 ⊢
  clear hqe her
  go_wp2
  obtain⟨o0,o1,o2⟩:=out_store HR83.out (.slice none 0 0) (.slice none 0 0)
  refine bodyPost_ret (v:=.tuple #[.agg #[.slice none 0 0,.slice none 0 0],.int .i64 4]) (by simp[results,Tryz.results39,go_sem,o0,o1]) rfl ?_
  exact⟨_,by rw[HR4.out],fun _=>rfl,fun h=>absurd (HR4.out.symm.trans h) (by decide),HW3.out.trans o2 (fun j hj=>Or.inr (by simp at hj;omega))⟩
 have hmv:=hno hz
 subst hmv
 have HRE:=lh (restErr_plan (q:=q) hz)
 have HNE:=lh hz
 have hb1:(Plain.planErr g p turn same != 0)=true:=by simpa using hz
 obtain⟨er,her⟩:∃ er,Plain.planErr g p turn same=er:=⟨_,rfl⟩
 rw[her] at hb1 HRE HNE ⊢
 clear hz hno hyes her
 go_wp2
 obtain⟨o0,o1,o2⟩:=out_store HR8.out (.slice none 0 0) (.slice none 0 0)
 refine bodyPost_ret (v:=.tuple #[.agg #[.slice none 0 0,.slice none 0 0],.int .i64 er]) (by simp[results,Tryz.results39,go_sem,o0,o1]) rfl ?_
 exact⟨_,by rw[HRE.out],fun _=>rfl,fun h=>absurd (HRE.out.symm.trans h) HNE.out,HW2.out.trans o2 (fun j hj=>Or.inr (by simp at hj;omega))⟩
theorem restTo_any (vg vp vx vq:Value) (g:Plain.Gr) (p q:Plain.Pt) (turn same:List (List Int)) (w:World) (hpl:p.e.length≤10000) (hpv:p.v.length≤10000) (hql:q.e.length≤10000) (hqv:q.v.length≤10000) (hTL:turn.length<2147483648) (hS:Plain.sumLen turn turn.length<2147483648) (hsl:same.length≤10000) (hsr:∀ i,(same.getD i []).length≤10000) (hg:GrAt w vg g) (hp:PtAt w vp p) (hx:PlAt w vx turn same) (hq:PtAt w vq q) :
  Calls Tryz.prog 39 #[vg,vp,vx,vq] w fun e w'=>∃ ov,e=.returned (.tuple #[ov,.int .i64 (Plain.restErr g p q turn same)])∧(Plain.restErr g p q turn same≠0→ov=.agg #[.slice none 0 0,.slice none 0 0]) ∧
   (Plain.restErr g p q turn same=0→PlAt w' ov (Plain.restTurn q.e turn) (Plain.restSame g p q turn same))∧Chg [] w w':=by
 refine (restTo_low vg vp vx vq g p q turn same w hpl hpv hql hqv hTL hS hsl hsr hg hp hx hq).mono ?_
 rintro e w' ⟨ov,h1,h2,h3,h4⟩
 exact⟨ov,h1,h2,fun h=>h3 h [] w' (Chg.refl _ _) (by simp),h4⟩
end Go.Proofs.YtkacjmoamgjfpaaGreat
