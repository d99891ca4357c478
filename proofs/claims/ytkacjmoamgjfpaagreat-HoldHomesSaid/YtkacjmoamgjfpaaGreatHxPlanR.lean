/- package plan: the contract of Right. Conditions: lists that lie in memory and read so, of a bounded size. -/
import Derived.Test.YtkacjmoamgjfpaaGreatHxFlat
import Derived.Test.YtkacjmoamgjfpaaGreatHxSmall
namespace Go.Proofs.YtkacjmoamgjfpaaGreat
open Go.RowKit Go.Maps
def Own (w:World) (pb:Nat) (s:St) (wr:World):Prop:=∃ own,SetsObj wr pb own s∧Chg [] w wr∧∀ j∈own,w.heap.size≤j
theorem Own.turn {w wr w':World} {pb:Nat} {own:List Nat} {t:St} (hc:Chg [] w wr) (hs:∀ j∈own,w.heap.size≤j) (ht:Turn wr pb own w' t):Own w pb t w':=by
 obtain⟨own2,h1,h2,h3⟩:=ht
 exact⟨own2,h1,hc.trans h2 (fun j hj=>Or.inr (hs j hj)),fun j hj=>by rcases h3 j hj with q | q;exact hs j q;exact Nat.le_trans hc.size q⟩
theorem own_add {w wr:World} {pb:Nat} {s:St} {x:Int} (hx:I64 x) (hn:s.all.length<34359738368) (h:Own w pb s wr) :
  Calls Tryz.prog 68 #[.pointer (some ⟨pb,0,none⟩),.int .i64 x] wr fun e w'=>e=.returned (.bool (decide (x ∉ s.all)))∧Own w pb (s.put x) w':=by
 obtain⟨own,h1,h2,h3⟩:=h
 exact (add_any pb own s x wr hx hn h1).mono fun e w' ⟨he,ht⟩=>⟨he,Own.turn h2 h3 ht⟩
theorem heap_lt {w:World} {b:Nat} {o:Obj} (h:w.heap[b]?=some o):b<w.heap.size:=(Array.getElem?_eq_some_iff.1 h).1
theorem owns_lt {w:World} {v:Value} {n:Nat} {xs:List Value} {e:TypeId} {size base:Nat} (h:w.ownsRow base e size v n xs) {b:Nat} (hb:v.ownBlock=some b):b<w.heap.size:=by
 rcases h.2 with ⟨rfl,rfl⟩ | ⟨g,cap,cur,rfl,-,hh,-⟩
 ·cases hb
 cases hb;exact heap_lt hh
theorem SetsObj.lt {w:World} {own:List Nat} {pb:Nat} {s:St} (h:SetsObj w pb own s):∀ j∈own,j<w.heap.size:=by
 obtain⟨mb,tv,uv,up,h,rfl⟩:=h
 intro j hj
 simp only[SetsAt.blocks,List.mem_append,List.mem_cons,List.not_mem_nil,or_false,Option.mem_toList] at hj
 rcases hj with ((rfl | rfl) | q) | q
 ·exact heap_lt h.cells
 ·exact h.map.lt
 ·exact owns_lt h.things q
 exact owns_lt h.ups q
def RNow (w:World) (pb mb:Nat) (s:St) (f:Int→Option Int) (m:Nat) (wr:World):Prop :=
 ∃ own,SetsObj wr pb own s∧Chg [] w wr∧(∀ j∈own,w.heap.size≤j∧j≠mb)∧IMap wr mb m f∧w.heap.size≤mb
theorem RNow.made {w wr:World} {pb:Nat} {s:St} (h:Own w pb s wr):RNow w pb wr.heap.size s (fun _=>none) 0 (wr.alloc (.map #[] 0)):=by
 obtain⟨own,h1,h2,h3⟩:=h
 exact⟨own,h1.chg ((Chg.refl [] wr).alloc _) (by simp),h2.alloc _,fun j hj=>⟨h3 j hj,by have:=h1.lt j hj;omega⟩,IMap.made wr,h2.size⟩
theorem RNow.chg {w wr:World} {pb mb m:Nat} {s:St} {f:Int→Option Int} (h:RNow w pb mb s f m wr):Chg [] w wr:=by obtain⟨_,_,h,_⟩:=h;exact h
theorem RNow.map {w wr:World} {pb mb m:Nat} {s:St} {f:Int→Option Int} (h:RNow w pb mb s f m wr):IMap wr mb m f:=by obtain⟨_,_,_,_,h,_⟩:=h;exact h
theorem RNow.drew {w wr:World} {pb mb m:Nat} {s:St} {f:Int→Option Int} (h:RNow w pb mb s f m wr):RNow w pb mb s f m wr.drew:=by
 obtain⟨own,h1,h2,h3,h4,h5⟩:=h
 exact⟨own,h1.chg ((Chg.refl [] _).drew) (by simp),h2.drew,h3,h4.chg ((Chg.refl [] _).drew) (by simp),h5⟩
theorem RNow.mono {w wr:World} {pb mb m m':Nat} {s:St} {f:Int→Option Int} (h:RNow w pb mb s f m wr) (hm:m≤m'):RNow w pb mb s f m' wr:=by
 obtain⟨own,h1,h2,h3,h4,h5⟩:=h
 exact⟨own,h1,h2,h3,h4.mono hm,h5⟩
theorem RNow.store {w wr w':World} {pb mb m m':Nat} {s:St} {f f':Int→Option Int} (h:RNow w pb mb s f m wr) (hm:IMap w' mb m' f') (hg:wr.grownBy w' (some mb)):RNow w pb mb s f' m' w':=by
 obtain⟨own,h1,h2,h3,h4,h5⟩:=h
 have hc:Chg [mb] wr w':=(Chg.refl [mb] wr).grown hg (fun j hj=>by cases hj;exact Or.inl (by simp))
 exact⟨own,h1.chg hc (fun b hb q=>(h3 b hb).2 (by simpa using q)),h2.trans hc (fun j hj=>by simp at hj;subst hj;exact Or.inr h5),h3,hm,h5⟩
theorem RNow.join {w wr:World} {pb mb m:Nat} {s:St} {f:Int→Option Int} {x y:Int} (hx:I64 x) (hy:I64 y) (hn:s.all.length<17179869184) (h:RNow w pb mb s f m wr) :
  Calls Tryz.prog 69 #[.pointer (some ⟨pb,0,none⟩),.int .i64 x,.int .i64 y] wr fun e w'=>e=.returned (.bool (s.joins x y))∧RNow w pb mb (s.join x y) f m w':=by
 obtain⟨own,h1,h2,h3,h4,h5⟩:=h
 refine (join_any pb own s x y wr hx hy hn h1).mono ?_
 rintro e w' ⟨he,own2,k1,k2,k3⟩
 refine⟨he,own2,k1,h2.trans k2 (fun j hj=>Or.inr (h3 j hj).1),fun j hj=>?_,h4.chg k2 (fun q=>(h3 mb q).2 rfl),h5⟩
 rcases k3 j hj with q | q
 ·exact h3 j q
 have:=h4.lt;have:=h2.size;exact⟨by omega,by omega⟩
theorem RNow.count {w wr:World} {pb mb m:Nat} {s:St} {f:Int→Option Int} (h:RNow w pb mb s f m wr) :
  Calls Tryz.prog 70 #[.pointer (some ⟨pb,0,none⟩)] wr fun e w'=>e=.returned (.int .i64 (s.count:Int))∧wr=w':=by
 obtain⟨own,h1,-,-,-,-⟩:=h
 exact count_any pb own s wr h1
theorem three_boxes (w:World) {g:Plain.Gr} {p:Plain.Pt} {turn same:List (List Int)} {eo ao bo tno so:Option Addr} {cap ac bc tc sc:Nat} {w2:World} (h:Chg [] (((w.alloc (.cells #[.int .i64 g.n,.slice eo g.e.length cap] 24)).alloc (.cells #[.slice ao p.v.length ac,.slice bo p.e.length bc] 29)).alloc (.cells #[.slice tno turn.length tc,.slice so same.length sc] 32)) w2) :
  w2.cell? ⟨w.heap.size,0,none⟩=some (.int .i64 g.n)∧w2.cell? ⟨w.heap.size,1,none⟩=some (.slice eo g.e.length cap)∧w2.cell? ⟨w.heap.size+1,0,none⟩=some (.slice ao p.v.length ac)∧w2.cell? ⟨w.heap.size+1,1,none⟩=some (.slice bo p.e.length bc)∧w2.cell? ⟨w.heap.size+2,0,none⟩=some (.slice tno turn.length tc)∧w2.cell? ⟨w.heap.size+2,1,none⟩=some (.slice so same.length sc)∧w.heap.size+3≤w2.heap.size:=by
 obtain⟨hb3,hc3⟩:=box_three w #[.int .i64 g.n,.slice eo g.e.length cap] #[.slice ao p.v.length ac,.slice bo p.e.length bc] #[.slice tno turn.length tc,.slice so same.length sc] 24 29 32
 obtain⟨x0,x1,y0,y1,-⟩:=two_boxes w (hc3.trans h (by simp))
 have hs:=h.size
 exact⟨x0,x1,y0,y1,h.cell ((cell_of_row _ _ 0 _ _ _ hb3).trans rfl) (by simp),h.cell ((cell_of_row _ _ 1 _ _ _ hb3).trans rfl) (by simp),by simpa using hs⟩
set_option maxRecDepth 100000 in
set_option maxHeartbeats 8000000 in
theorem right_any (vg vp vx:Value) (g:Plain.Gr) (p:Plain.Pt) (turn same:List (List Int)) (w:World) (hpl:p.e.length≤100000) (hpv:p.v.length≤100000) (hTL:turn.length<2147483648) (hS:Plain.sumLen turn turn.length<2147483648) (hsl:same.length≤10000) (hsr:∀ i,(same.getD i []).length≤10000) (hg:GrAt w vg g) (hp:PtAt w vp p) (hx:PlAt w vx turn same) :
  Calls Tryz.prog 24 #[vg,vp,vx] w fun e w'=>e=.returned (.int .i64 (Plain.planErr g p turn same))∧Chg [] w w':=by
 have HG:=lh hg
 have HP:=lh hp
 have HSL:=lh hS
 have HSR:=lh hsr
 obtain⟨eo,cap,rfl,hn,hm,hsm,hcell⟩:=hg
 obtain⟨v1,v2,rfl,hv,he⟩:=hp
 obtain⟨ao,ac,rfl,has,ham,hacell⟩:=hv
 obtain⟨bo,bc,rfl,hbs,hbm,hbcell⟩:=he
 obtain⟨t1,t2,rfl,ht,hs⟩:=hx
 have HT:=lh ht
 obtain⟨tno,tc,rfl,htm,-⟩:=ht
 obtain⟨so,sc,rfl,hsm2,hsc⟩:=hs
 have HSC:=lh hsc
 obtain⟨-,-,hc1⟩:=box_two w #[.int .i64 g.n,.slice eo g.e.length cap] #[.slice ao p.v.length ac,.slice bo p.e.length bc] 24 29
 obtain⟨-,hc3⟩:=box_three w #[.int .i64 g.n,.slice eo g.e.length cap] #[.slice ao p.v.length ac,.slice bo p.e.length bc] #[.slice tno turn.length tc,.slice so same.length sc] 24 29 32
 have HC1:=lh (hc1.trans hc3 (by simp))
 have HBXS:=lh (fun w2 h=>three_boxes w (g:=g) (p:=p) (turn:=turn) (same:=same) (eo:=eo) (ao:=ao) (bo:=bo) (tno:=tno) (so:=so) (cap:=cap) (ac:=ac) (bc:=bc) (tc:=tc) (sc:=sc) (w2:=w2) h)
 clear hcell hacell hbcell hsm hbs has hn hc1 hc3 hsc hS hsr
 obtain⟨x0,x1,y0,y1,z0,z1,hsz⟩:=HBXS.out _ (Chg.refl _ _)
 go_enter Tryz.func24,Tryz.ntmps24
 go_wp2_with fail
 refine (flat_any _ _ _ g p turn _ hpl hpv hTL HSL.out (HG.out.fresh HC1.out) (HP.out.fresh HC1.out) (HT.out.fresh HC1.out)).mono ?_
 rintro e w3 ⟨rfl,hc3⟩
 have HC3:=lh (HC1.out.trans hc3 (by simp))
 have HC31:=lh hc3
 clear x0 x1 y0 y1 z0 z1 hsz
 obtain⟨x0,x1,y0,y1,z0,z1,hsz⟩:=HBXS.out w3 hc3
 clear hc3
 by_cases hz:Plain.flatErr g p turn=0
 ·have HZ:=lh hz
  have HR:=lh (Plain.flatErr_zero hz).1
  have HPER:=lh (Plain.planErr_run (same:=same) hz)
  rw[hz]
  clear hz
  go_wp2_with fail
  refine (owners_any _ _ _ g p turn _ hpl hpv hTL HSL.out HR.out (HG.out.fresh HC3.out) (HP.out.fresh HC3.out) (HT.out.fresh HC3.out)).mono ?_
  rintro e w4 ⟨ob,on,rfl,hom,hc4,hob,hwk⟩
  have HOM:=lh hom
  have HOB:=lh hob
  have HC4:=lh (HC3.out.trans hc4 (by simp))
  have HC41:=lh (HC31.out.trans hc4 (by simp))
  have hpe:=(Plain.turnErr_zero HR.out).1
  have HOWN:=lh (fun y a h=>Plain.ownerOf_lt (Plain.Pt.ok_of_err hpe) hwk (y:=y) (a:=a) h)
  have hrl:(Plain.roots g p).length≤100000:=by rw[←Plain.rootsTo_all];exact Nat.le_trans (Plain.rootsTo_len g p _) hpv
  clear hom hob hc4 hwk hpe x0 x1 y0 y1 z0 z1 hsz
  obtain⟨n,hRL⟩:∃ n,(Plain.roots g p).length=n:=⟨_,rfl⟩
  obtain⟨ow,hOW⟩:∃ ow,Plain.ownerOf g p (Plain.walksOf g p turn)=ow:=⟨_,rfl⟩
  rw[hRL] at HPER hrl HOWN ⊢
  rw[hOW] at HPER HOM HOWN
  clear hRL hOW
  have hnil0:([]:List Int).length<4294967296:=by simp
  go_wp2_with fail
  refine (new_any _ [] _ hnil0 (IntsAt.nil _)).mono ?_
  rintro e w5 ⟨pb,own,rfl,hso,hc5,hown⟩
  have HOW5:=lh (show Own w4 pb (St.new []) w5 from⟨own,hso,hc5,hown⟩)
  clear hso hc5 hown
  go_wp2
  go_loopw [39] (fun c wr=>∃ k:Nat,k≤n∧c=.int .i64 k∧Own w4 pb (St.new ((Plain.upTo n).take k)) wr) (fun c _=>n - (intOf c).toNat)
  case atStart=>exact⟨0,Nat.zero_le _,rfl,by rw[List.take_zero];exact HOW5.out⟩
  case round =>
   obtain⟨k,hk,rfl,how⟩:=hrel
   have HOWK:=lh how
   have hul:(Plain.upTo n).length=n:=by simp[Plain.upTo]
   by_cases hlt:k<n
   ·have HST:=lh (St.new_take (l:=Plain.upTo n) (k:=k) (by rw[hul];exact hlt))
    have hgk:(Plain.upTo n).getD k 0=(k:Int):=by simp[Plain.upTo,List.getD,hlt]
    have hlen:=St.new_len ((Plain.upTo n).take k)
    have hlen2:((Plain.upTo n).take k).length≤k:=List.length_take_le _ _
    have hls:(St.new ((Plain.upTo n).take k)).all.length<34359738368:=by omega
    have IK:I64 (k:Int):=I64.mk (by omega) (by omega)
    rw[hgk] at HST
    clear how hul hgk hlen hlen2
    go_wp2_with fail
    refine (own_add (w:=w4) IK hls HOWK.out).mono ?_
    rintro e w6 ⟨rfl,h6⟩
    have H6:=lh h6
    clear h6
    go_wp2
    go_roundw
    case rel=>exact⟨k+1,by omega,by go_num,by rw[HST.out];exact H6.out⟩
    case measure=>simp[intOf];omega
   have e:n=k:=by omega
   subst e
   rw[List.take_of_length_le (by omega)] at how
   have HOWF:=lh how
   clear HOWK how hlt hk hul
   generalize wr=wy at *
   have hcy:Chg [] w4 wy:=by obtain⟨_,_,q,_⟩:=HOWF.out;exact q
   have HC5:=lh (HC41.out.trans hcy (by simp))
   have HOMY:=lh (HOM.out.chg hcy (by simp))
   obtain⟨-,-,-,-,z0,z1,-⟩:=HBXS.out wy HC5.out
   have hmm:=@run_makeMap Tryz.prog
   have HN0:=lh (RNow.made HOWF.out)
   have HS0:=lh (show Plain.sameRun ow same (St.new (Plain.upTo n),[]) 0=some (St.new (Plain.upTo n),[]) from rfl)
   have z1n:=fun o=>cellNew z1 o
   clear hcy
   go_wp2
   clear hmm z1n
   obtain⟨mb,hmb⟩:∃ mb,wy.heap.size=mb:=⟨_,rfl⟩
   rw[hmb] at HN0 ⊢
   clear hmb
   generalize wy.alloc (.map #[] 0)=wz at *
   clear z0 z1
   go_loopw [50] (fun c wr=>∃ (i:Nat) (st:St × List Int) (f:Int→Option Int),i≤same.length∧c=.int .i64 i∧RNow w4 pb mb st.1 f (i*10000) wr∧Hid (Plain.sameRun ow same (St.new (Plain.upTo n),[]) i=some st)∧Hid (∀ y,f y=none↔y ∉ st.2)) (fun c _=>same.length - (intOf c).toNat)
   case atStart=>exact⟨0,_,_,Nat.zero_le _,rfl,by rw[Nat.zero_mul];exact HN0.out,HS0,lh (fun y=>by simp)⟩
   case round =>
    obtain⟨i,st,f,hi,rfl,hrn,hsr,hff⟩:=hrel
    have HRN:=lh hrn
    have HC6:=lh (HC41.out.trans hrn.chg (by simp))
    obtain⟨-,-,-,-,-,z1,-⟩:=HBXS.out wr HC6.out
    by_cases hlt:i<same.length
    ·obtain⟨sb,soff,u,rfl,hcell,-,hints⟩:=HSC.out i hlt
     obtain⟨lo,lc,rfl,hlsm,hlm,hlcell⟩:=hints
     have c0:=HC6.out.cell (HC1.out.cell hcell (by simp)) (by simp)
     have hll:=HSR.out i
     obtain⟨hso1,-,hso3⟩:=Plain.sameRun_ok (fun y a h=>HOWN.out y a h) i st (by omega) hsr.out
     have HLO:=lh hso1
     have HB1:=lh (show (same.getD i []).length<2→Plain.listBad same i from fun h=>Or.inl h)
     have HB0:=lh (show ¬ (same.getD i []).length<2→i=0→¬ Plain.listBad same i from fun h e=>by unfold Plain.listBad;omega)
     have HBB:=lh (fun h=>Plain.sameRun_bad (ow:=ow) hlt hsr.out h)
     have HBN:=lh (fun d h1 h2=>Plain.sameRun_next (ow:=ow) (d:=d) hsr.out h1 h2)
     have HBS:=lh (fun h1 h2=>Plain.sameRun_stop (ow:=ow) hlt hsr.out h1 h2)
     have HPV:=lh (show ∀ j,i=j+1→∃ u q,w.cell? ⟨sb,soff+j,none⟩=some u∧(∃ b off n c,u=.slice (some ⟨b,off,none⟩) n c∧2≤n∧n≤10000∧w.cell? ⟨b,off,none⟩=some (.int .i64 q))∧((same.getD i []).getD 0 0≤q→Plain.listBad same i)∧(¬ (same.getD i []).length<2→q<(same.getD i []).getD 0 0→¬ Plain.listBad same i) by
      intro j e
      subst e
      obtain⟨sb2,soff2,u2,e2,hcell2,-,hints2⟩:=HSC.out j (by omega)
      cases e2
      obtain⟨lo2,lc2,rfl,-,-,hlcell2⟩:=hints2
      have hb2:=(hso3 j (by omega)).1
      have hp2:2≤(same.getD j []).length:=by unfold Plain.listBad at hb2;omega
      obtain⟨b,off,e3,hc2⟩:=hlcell2 (by intro e;rw[e] at hp2;simp at hp2)
      refine⟨_,(same.getD j []).getD 0 0,hcell2,⟨b,off,_,lc2,by rw[e3],hp2,HSR.out j,by have:=hc2 0 (by omega);rwa[Nat.add_zero] at this⟩,fun h=>Or.inr ⟨by omega,h⟩,fun h1 h2=>?_⟩
      unfold Plain.listBad
      rw[show j+1 - 1=j by omega]
      omega)
     have HLC:=lh hlcell
     have HLS:=lh hlsm
     clear hcell hso1 hso3 hsr hlcell hlsm hrn
     obtain⟨l,hl⟩:∃ l,same.getD i []=l:=⟨_,rfl⟩
     rw[hl] at c0 hll HLC HLS HB1 HB0 HBN HBS HPV hlm
     clear hl
     go_upto_if 75 with fail
     go_cut [75] (fun c75 wc=>∃ bb:Bool,c75=.bool bb∧RNow w4 pb mb st.1 f (i*10000) wc∧Hid (decide (Plain.listBad same i)=bb))
     case first =>
      by_cases h2:l.length<2
      ·have HBAD:=lh (decide_eq_true (HB1.out h2))
       have b1:decide ((l.length:Int)<2)=true:=decide_eq_true (by omega)
       clear z1 c0
       have hS0:(fun _:World=>True) wr.drew:=trivial
       refine wp_region_way (fun _:World=>True) [0,1,2,3,4,5,6,7,8,9,10,11,12,13,14,15,16,17,18,19,20] (Way.line [0,1,2,3,4,5,6,7,8,9,10,11,12,13,14,15,16,17,18,19,20] .done) (by kernel_rfl) (by kernel_rfl) ?_
       simp only[Way.line]
       repeat
        first
         | (refine along_off rfl (by rfl) (by rfl) (fun _ _ _ h=>h) hS0 ?_;simp only[Act.put,Z1,Z2,Z3,Z4,Z5,Z6])
         | (refine along_read (v:=?_) rfl (by rfl) (by rfl) (fun _ _ _ h=>h) hS0 (fun w' hS'=>?_) ?_;rotate_left;(focus ((try dsimp only at hS');go_simp;try with_reducible rfl));simp only[Act.put,Z1,Z2,Z3,Z4,Z5,Z6])
         | (refine along_skip rfl (by rfl) (by rfl) hS0 ?_;simp only[Act.put,Z1,Z2,Z3,Z4,Z5,Z6])
       refine along_done ?_
       go_wp2
       go_meet
       case rel=>exact⟨true,rfl,HRN.out.drew,HBAD⟩
      cases i with
      | zero =>
       have HNB:=lh (decide_eq_false (HB0.out h2 rfl))
       have b1:decide ((l.length:Int)<2)=false:=decide_eq_false (by omega)
       clear z1 c0
       have hS0:(fun _:World=>True) wr.drew:=trivial
       refine wp_region_way (fun _:World=>True) [0,1,2,3,4,5,6,7,8,9,10,11,12,13,14,15,16,17,18,19,20] (Way.line [0,1,2,3,4,5,6,7,8,9,10,11,12,13,14,15,16,17,18,19,20] .done) (by kernel_rfl) (by kernel_rfl) ?_
       simp only[Way.line]
       repeat
        first
         | (refine along_off rfl (by rfl) (by rfl) (fun _ _ _ h=>h) hS0 ?_;simp only[Act.put,Z1,Z2,Z3,Z4,Z5,Z6])
         | (refine along_read (v:=?_) rfl (by rfl) (by rfl) (fun _ _ _ h=>h) hS0 (fun w' hS'=>?_) ?_;rotate_left;(focus ((try dsimp only at hS');go_simp;try with_reducible rfl));simp only[Act.put,Z1,Z2,Z3,Z4,Z5,Z6])
         | (refine along_skip rfl (by rfl) (by rfl) hS0 ?_;simp only[Act.put,Z1,Z2,Z3,Z4,Z5,Z6])
       refine along_done ?_
       go_wp2
       go_meet
       case rel=>exact⟨false,rfl,HRN.out.drew,HNB⟩
      | succ j =>
       obtain⟨u,q,hcu,⟨b,off,nn,cc,rfl,hn2,hn3,hcq⟩,hq1,hq2⟩:=HPV.out j rfl
       obtain⟨lb,loff,rfl,hlc⟩:=HLC.out (by intro e;rw[e] at h2;simp at h2)
       have d0:=HC6.out.cell (HC1.out.cell hcu (by simp)) (by simp)
       have d1:=HC6.out.cell (HC1.out.cell hcq (by simp)) (by simp)
       have d2:=HC6.out.cell (HC1.out.cell (hlc 0 (by omega)) (by simp)) (by simp)
       rw[Nat.add_zero] at d2
       have b1:decide ((l.length:Int)<2)=false:=decide_eq_false (by omega)
       have b2:decide (((j+1:Nat):Int) > 0)=true:=decide_eq_true (by omega)
       have e1:IntKind.i64.wrap (((j+1:Nat):Int) - 1)=(j:Int):=by rw[IntWalk.i64_in _ (by omega)];omega
       have i1:(0:Int)≤(j:Int):=by omega
       have i2:(j:Int)<(same.length:Int):=by omega
       have i3:(0:Int)<(nn:Int):=by omega
       have i4:(0:Int)<(l.length:Int):=by omega
       have i5:0<nn:=by omega
       have e3:IntKind.i64.wrap (j:Int)=(j:Int):=IntWalk.i64_in _ (by omega)
       have i7:j<same.length:=by omega
       have i6:0<l.length:=by omega
       have e2:IntKind.i64.wrap ((j:Int)+1 - 1)=(j:Int):=by rw[IntWalk.i64_in _ (by omega)];omega
       have HQ1:=lh hq1
       have HQ2:=lh (hq2 h2)
       clear hq1 hq2 hcu hcq hlc c0
       generalize l.getD 0 0=fst at *
       have hS0:(fun w':World=>w'.cell? ⟨w.heap.size+2,1,none⟩=some (.slice (some ⟨sb,soff,none⟩) same.length sc)∧w'.cell? ⟨sb,soff+j,none⟩=some (.slice (some ⟨b,off,none⟩) nn cc)∧w'.cell? ⟨b,off,none⟩=some (.int .i64 q)∧w'.cell? ⟨lb,loff,none⟩=some (.int .i64 fst)) wr.drew:=⟨z1,d0,d1,d2⟩
       refine wp_region_way (fun w':World=>w'.cell? ⟨w.heap.size+2,1,none⟩=some (.slice (some ⟨sb,soff,none⟩) same.length sc)∧w'.cell? ⟨sb,soff+j,none⟩=some (.slice (some ⟨b,off,none⟩) nn cc)∧w'.cell? ⟨b,off,none⟩=some (.int .i64 q)∧w'.cell? ⟨lb,loff,none⟩=some (.int .i64 fst)) [0,1,2,3,4,5,6,7,8,9,10,11,12,13,14,15,16,17,18,19,20] (Way.line [0,1,2,3,4,5,6,7,8,9,10,11,12,13,14,15,16,17,18,19,20] .done) (by kernel_rfl) (by kernel_rfl) ?_
       simp only[Way.line]
       repeat
        first
         | (refine along_off rfl (by rfl) (by rfl) (fun _ _ _ h=>h) hS0 ?_;simp only[Act.put,Z1,Z2,Z3,Z4,Z5,Z6])
         | (refine along_read (v:=?_) rfl (by rfl) (by rfl) (fun _ _ _ h=>h) hS0 (fun w' hS'=>?_) ?_;rotate_left;(focus ((try dsimp only at hS');go_simp;try with_reducible rfl));simp only[Act.put,Z1,Z2,Z3,Z4,Z5,Z6])
         | (refine along_skip rfl (by rfl) (by rfl) hS0 ?_;simp only[Act.put,Z1,Z2,Z3,Z4,Z5,Z6])
       refine along_done ?_
       by_cases hle:fst≤q
       ·have HBAD:=lh (decide_eq_true (HQ1.out hle))
        rw[decide_eq_true hle]
        go_wp2
        go_meet
        case rel=>exact⟨true,rfl,HRN.out.drew,HBAD⟩
       have HBAD:=lh (decide_eq_false (HQ2.out (by omega)))
       rw[decide_eq_false hle]
       go_wp2
       go_meet
       case rel=>exact⟨false,rfl,HRN.out.drew,HBAD⟩
     case rest =>
      obtain⟨bb,rfl,hrn,hbb⟩:=hcut
      cases bb with
      | true =>
       have HBAD:=lh (HPER.out.trans (by rw[HBB.out (of_decide_eq_true hbb.out)]))
       have HCW:=lh (HC1.out.trans (HC41.out.trans hrn.chg (by simp)) (by simp))
       clear c0 z1 hrn hbb
       go_wp2
       go_ret
       exact⟨ret_int HBAD.out.symm,HCW.out⟩
      | false =>
       have HNB:=lh (of_decide_eq_false hbb.out)
       have HRNC:=lh hrn
       have II:I64 (i:Int):=I64.mk (by omega) (by omega)
       clear c0 z1 hrn hbb HRN HC6
       go_wp2
       go_loopw [78] (fun c wi=>∃ (k:Nat) (d:St × List Int) (f:Int→Option Int),k≤l.length∧c=.int .i64 k∧RNow w4 pb mb d.1 f (i*10000+k) wi∧Hid (Plain.listRun ow l st k=some d)∧Hid (∀ y,f y=none↔y ∉ d.2)) (fun c _=>l.length - (intOf c).toNat)
       case atStart=>exact⟨0,st,f,Nat.zero_le _,rfl,HRNC.out,rfl,hff⟩
       case round =>
        obtain⟨k,d,f2,hk,rfl,hrn,hrun,hff2⟩:=hrel
        have HRNI:=lh hrn
        by_cases hltk:k<l.length
        ·obtain⟨lb,loff,rfl,hlc⟩:=HLC.out (by intro e;rw[e] at hltk;simp at hltk)
         have ck:=(HC41.out.trans hrn.chg (by simp)).cell (HC1.out.cell (hlc k hltk) (by simp)) (by simp)
         have IK:=HLS.out (l.getD k 0) (Plain.getD_mem hltk)
         have HOMI:=lh (HOM.out.chg hrn.chg (by simp))
         have HKO:=lh (Plain.listRun_ok (fun y a h=>HOWN.out y a h) HLO.out k d hrun.out)
         have hall:d.1.all.length<17179869184:=by rw[HKO.out.1.all];simp[Plain.upTo];omega
         have HSTOP:=lh (fun h=>HPER.out.trans (by rw[HBS.out HNB.out (Plain.listRun_stop hltk hrun.out h)]))
         have HNEXT:=lh (fun e h=>Plain.listRun_next (d:=e) hrun.out h)
         have HCW:=lh (HC1.out.trans (HC41.out.trans hrn.chg (by simp)) (by simp))
         have HLCC:=lh hlc
         have HMI:=lh hrn.map
         have hmx:i*10000+k<maxLen:=by unfold maxLen;omega
         obtain⟨key,hkey⟩:∃ key,l.getD k 0=key:=⟨_,rfl⟩
         have HKEY:=lh hkey
         rw[hkey] at ck IK
         clear hlc hrn hkey
         cases hok:ow key with
         | none =>
          have HF1:=lh hok
          have HR7:=lh (HSTOP.out (Plain.keyStep_none (by rw[HKEY.out];exact hok)))
          obtain⟨u2,hu2⟩:∃ u2,(f2 key).getD 0=u2:=⟨_,rfl⟩
          obtain⟨t2,ht2⟩:∃ t2,(f2 key).isSome=t2:=⟨_,rfl⟩
          have HU2:=lh hu2
          have HT2:=lh ht2
          clear hok hu2 ht2
          go_wp2_with (at_lookup;first
           | refine wp_look_miss _ rfl _ _ rfl HOMI.out rfl IK rfl HF1 ?_
           | refine wp_look_any _ rfl _ _ rfl HMI.out rfl IK rfl HU2 HT2 ?_)
          go_ret
          exact⟨ret_int HR7.out.symm,HCW.out⟩
         | some a =>
          have HF1:=lh hok
          have hab:=HOWN.out key a hok
          have IA:I64 a:=I64.mk (by omega) (by omega)
          clear hok
          cases hmt:f2 key with
          | some v2 =>
           have HF2:=lh hmt
           have HR7:=lh (HSTOP.out (Plain.keyStep_bad (Or.inl (by
            rw[HKEY.out]
            exact Classical.byContradiction fun q=>by rw[(hff2.out key).2 q] at hmt;cases hmt))))
           clear hmt hab
           go_wp2_with (at_lookup;first
            | refine wp_look_hit _ rfl _ _ rfl HOMI.out rfl IK rfl HF1 ?_
            | refine wp_look_hit _ rfl _ _ rfl HMI.out rfl IK rfl HF2 ?_)
           go_ret
           exact⟨ret_int HR7.out.symm,HCW.out⟩
          | none =>
           have HF2:=lh hmt
           have HNM:=lh ((hff2.out key).1 hmt)
           have HFN:=lh (show ∀ y,(if y=key then some (i:Int) else f2 y)=none↔y ∉ d.2++[key] from fun y=>by
            by_cases e:y=key
            ·subst e;simp
            rw[if_neg e,hff2.out y];simp[e])
           clear hmt hab
           by_cases hk0:k=0
           ·have HNX:=lh (HNEXT.out (d.1,d.2++[key]) (by
             have h1:=Plain.keyStep_first (ow:=ow) (l:=l) (st:=d) (a:=a) (by have:=HKEY.out;rw[hk0] at this;rw[this];exact HF1.out) (by have:=HKEY.out;rw[hk0] at this;rw[this];exact HNM.out)
             have:=HKEY.out
             rw[hk0] at this ⊢
             rw[this] at h1
             exact h1))
            have b2:decide ((k:Int) > 0)=false:=decide_eq_false (by omega)
            have b3:decide (0<(k:Int))=false:=decide_eq_false (by omega)
            have b4:¬ 0<k:=by omega
            clear hk0
            go_wp2_with (first
             | (at_lookup;first
              | refine wp_look_hit _ rfl _ _ rfl HOMI.out rfl IK rfl HF1 ?_
              | refine wp_look_miss _ rfl _ _ rfl HMI.out rfl IK rfl HF2 ?_)
             | (at_mapUpdate;refine wp_store _ rfl _ _ _ rfl HMI.out hmx rfl IK II rfl rfl ?_;intro w6 m6 g6;have HN6:=lh (HRNI.out.store m6 g6);clear m6 g6 ck))
            go_roundw
            case rel=>exact⟨k+1,(d.1,d.2++[key]),_,by omega,by go_num,HN6.out,HNX,HFN⟩
            case measure=>simp[intOf];omega
           obtain⟨j,hj⟩:∃ j,k=j+1:=⟨k - 1,by omega⟩
           obtain⟨q,hq⟩:∃ q,l.getD j 0=q:=⟨_,rfl⟩
           have hcj:=HLCC.out j (by omega)
           have hc0:=HLCC.out 0 (by omega)
           rw[hq] at hcj
           rw[Nat.add_zero] at hc0
           have HQ:=lh (show l.getD (k - 1) 0=q by rw[hj];exact hq)
           have cj:=HRNI.out.chg |> fun h=>(HC41.out.trans h (by simp)).cell (HC1.out.cell hcj (by simp)) (by simp)
           have HC0:=lh hc0
           have HSM0:=lh (HLS.out (l.getD 0 0) (Plain.getD_mem (by omega)))
           have b2:decide ((k:Int) > 0)=true:=decide_eq_true (by omega)
           have b4:0<k:=by omega
           have e1:IntKind.i64.wrap ((k:Int) - 1)=(j:Int):=by rw[IntWalk.i64_in _ (by omega)];omega
           have i7:j<l.length:=by omega
           have i1:(0:Int)≤(j:Int):=by omega
           have i2:(j:Int)<(l.length:Int):=by omega
           have i6:0<l.length:=by omega
           clear hk0 hj hq hcj hc0
           by_cases hle:key≤q
           ·have HR7:=lh (HSTOP.out (Plain.keyStep_bad (Or.inr ⟨b4,by rw[HKEY.out,HQ.out];exact hle⟩)))
            have b3:decide (key≤q)=true:=decide_eq_true hle
            clear hle
            go_wp2_with (at_lookup;first
             | refine wp_look_hit _ rfl _ _ rfl HOMI.out rfl IK rfl HF1 ?_
             | refine wp_look_miss _ rfl _ _ rfl HMI.out rfl IK rfl HF2 ?_)
            go_ret
            exact⟨ret_int HR7.out.symm,HCW.out⟩
           have HLT:=lh (show l.getD (k - 1) 0<l.getD k 0 by rw[HKEY.out,HQ.out];omega)
           have b3:decide (key≤q)=false:=decide_eq_false hle
           obtain⟨f0,hf0⟩:∃ f0,l.getD 0 0=f0:=⟨_,rfl⟩
           obtain⟨b,hb⟩:∃ b,(ow f0).getD 0=b:=⟨_,rfl⟩
           have HB:=lh hb
           have HBJ:=lh (show (ow (l.getD 0 0)).getD 0=b by rw[hf0];exact hb)
           have IB:I64 b:=by
            rw[←hb]
            cases h:ow f0 with
            | none=>exact I64.mk (by simp) (by simp)
            | some z=>have:=HOWN.out f0 z h;exact I64.mk (by simp;omega) (by simp;omega)
           rw[hf0] at HC0 HSM0
           clear hle hf0 hb
           go_wp2_with (first
            | (at_lookup;first
             | refine wp_look_hit _ rfl _ _ rfl HOMI.out rfl IK rfl HF1 ?_
             | refine wp_look_miss _ rfl _ _ rfl HMI.out rfl IK rfl HF2 ?_)
            | (at_mapUpdate;refine wp_store _ rfl _ _ _ rfl HMI.out hmx rfl IK II rfl rfl ?_;intro w6 m6 g6;have HN6:=lh (HRNI.out.store m6 g6);have HOM6:=lh (HOM.out.chg HN6.out.chg (by simp));have c06:=(HC41.out.trans HN6.out.chg (by simp)).cell (HC1.out.cell HC0.out (by simp)) (by simp);have hlk:=HOM6.out.look_run HSM0.out;rw[HB.out] at hlk;clear m6 g6 ck cj)
            | fail)
           refine (RNow.join IB IA hall HN6.out).mono ?_
           rintro e w7 ⟨rfl,h7⟩
           have H7:=lh h7
           clear h7 c06 hlk
           cases hjn:d.1.joins b a with
           | true =>
            have HNX:=lh (HNEXT.out _ (Plain.keyStep_join b4 (by rw[HKEY.out];exact HF1.out) (by rw[HKEY.out];exact HNM.out) HLT.out HBJ.out hjn))
            rw[HKEY.out] at HNX
            clear hjn
            go_wp2
            go_roundw
            case rel=>exact⟨k+1,(d.1.join b a,d.2++[key]),_,by omega,by go_num,H7.out,HNX,HFN⟩
            case measure=>simp[intOf];omega
           | false =>
            have HR7:=lh (HSTOP.out (Plain.keyStep_not b4 (by rw[HKEY.out];exact HF1.out) HBJ.out hjn))
            have HCW7:=lh (HC1.out.trans (HC41.out.trans H7.out.chg (by simp)) (by simp))
            clear hjn
            go_wp2
            go_ret
            exact⟨ret_int HR7.out.symm,HCW7.out⟩
        have e:k=l.length:=by omega
        subst e
        have HNX:=lh (HBN.out d HNB.out hrun.out)
        clear hrn
        go_wp2
        go_roundw
        case rel=>exact⟨i+1,d,f2,by omega,by go_num,HRNI.out.mono (by omega),HNX,hff2⟩
        case measure=>simp[intOf];omega
    have e:i=same.length:=by omega
    subst e
    have HPE:=lh (HPER.out.trans (by rw[hsr.out]))
    have HCW:=lh (HC1.out.trans HC6.out (by simp))
    clear hrn z1
    go_wp2_with fail
    refine HRN.out.count.mono ?_
    rintro e w7 ⟨rfl,rfl⟩
    obtain⟨cn,hcn⟩:∃ cn,st.1.count=cn:=⟨_,rfl⟩
    rw[hcn] at HPE ⊢
    clear hcn
    by_cases hgt:1<cn
    ·have HP7:=lh (HPE.out.trans (if_pos hgt))
     have b1:decide ((cn:Int) > 1)=true:=decide_eq_true (by omega)
     clear hgt
     go_wp2
     go_ret
     exact⟨ret_int HP7.out.symm,HCW.out⟩
    have HP7:=lh (HPE.out.trans (if_neg hgt))
    have b1:decide ((cn:Int) > 1)=false:=decide_eq_false (by omega)
    clear hgt
    go_wp2
    go_ret
    exact⟨ret_int HP7.out.symm,HCW.out⟩
 have HZ:=lh (Plain.planErr_flat (same:=same) hz)
 have hzb:((Plain.flatErr g p turn) != 0)=true:=by simp[hz]
 clear hz
 go_wp2
 go_ret
 exact⟨ret_int HZ.out.symm,HC3.out⟩
end Go.Proofs.YtkacjmoamgjfpaaGreat
