/- package face: the contract of Walks: all walks around faces. Conditions: lists that lie in memory and read so, of a bounded size. -/
import Derived.Test.YtkacjmoamgjfpaaGreatHxNext
namespace Go.Proofs.YtkacjmoamgjfpaaGreat
open Go.RowKit Go.Maps
def Fill (ds:List Int) (wr:World) (pre:List {x // x∈ds}) (W:World):Prop :=
 ∃ f,IMap W wr.heap.size pre.length f∧(∀ y,f y≠none↔y∈pre.map (·.1))∧W.heap[wr.heap.size+1]?=some (.cells #[.map (some wr.heap.size)] 93 (0,0))∧Chg [] wr W
theorem Fill.own {ds:List Int} {wr:World} {B:Nat} (hB:wr.heap.size+2≤B):OwnFrom B (Fill ds wr) :=
 ownFrom_chg fun s W W' own h hc ho=>by
  obtain⟨f,h1,h2,h3,h4⟩:=h
  exact⟨f,h1.chg hc (fun e=>by have:=(ho _ e).1;omega),h2,hc.heap h3 (fun e=>by have:=(ho _ e).1;omega),h4.trans hc (fun j hj=>Or.inr (by have:=(ho _ hj).1;omega))⟩
theorem RotaAt.fresh {w w':World} {rb:Nat} {T:List (List Int)} {lv pl:Int→Option Int} {ds:List Int} {vt vd:Value} {lb pb n m:Nat} (h:RotaAt w rb T lv pl ds vt vd lb pb n m) (hc:Chg [] w w'):RotaAt w' rb T lv pl ds vt vd lb pb n m :=
 ⟨hc.heap h.cells (by simp),h.turn.fresh hc,h.leaves.chg hc (by simp),h.place.chg hc (by simp),h.darts.fresh hc⟩
theorem keepsFrom_chg {B:Nat} {W W':World} {own:List Nat} (hc:Chg own W W') (ho:∀ j∈own,j<B∨∃ cs t r,W.heap[j]?=some (.cells cs t r)):KeepsFrom B W W':=by
 refine⟨hc.size,fun k o hB hk hi=>(hc.block k (lt_of_block hk) (fun e=>?_)).trans hk⟩
 rcases ho k e with q | ⟨cs,t,r,q⟩
 ·omega
 rw[hk] at q
 cases q
 simp[Obj.isCells] at hi
def Made (g:Plain.Gr) (p:Plain.Pt) (turn:List (List Int)) (w2:World) (mb ob rb D Bs:Nat) (pre:List {x // x∈p.darts}) (W:World):Prop :=
 ∃ F f,OutW w2.heap.size W ob W.heap.size (Plain.loneAt turn p.v++F)∧IMap W mb p.darts.length f∧(∀ y,f y≠none↔y∈p.darts∧y ∉ Plain.flat F)∧Plain.Trk g p turn F (pre.map (·.1)) ∧
  W.heap[mb+1]?=some (.cells #[.map (some mb)] 93 (0,0))∧W.heap[w2.heap.size]?=some (.cells #[.pointer (some ⟨rb,0,none⟩)] 174 (0,0))∧W.heap[D]?=some (.deferred (some []))∧Chg [] w2 W∧W.heap[Bs]?=some (.cells #[.pointer (some ⟨rb,0,none⟩)] 174 (0,0))
theorem Made.own {g:Plain.Gr} {p:Plain.Pt} {turn:List (List Int)} {w2:World} {mb ob rb D Bs B:Nat} (h2:mb+1<B) (h3:w2.heap.size<B) (h4:D<B) (h5:Bs<B):OwnFrom B (Made g p turn w2 mb ob rb D Bs) :=
 ownFrom_chg fun s W W' own h hc ho=>by
  obtain⟨F,f,k1,k2,k3,k4,k5,k6,k7,k8,k9⟩:=h
  exact⟨F,f,(k1.keep hc (fun j hj=>Or.inr (ho j hj).2)).up hc.size,k2.chg hc (fun e=>by have:=(ho _ e).1;omega),k3,k4,hc.heap k5 (fun e=>by have:=(ho _ e).1;omega),hc.heap k6 (fun e=>by have:=(ho _ e).1;omega),hc.heap k7 (fun e=>by have:=(ho _ e).1;omega),k8.trans hc (fun j hj=>Or.inr (by have:=(ho _ hj).1;omega)),hc.heap k9 (fun e=>by have:=(ho _ e).1;omega)⟩
def rowLen (W:World) (wb:Nat):Nat:=match W.cell? ⟨wb,1,none⟩ with | some (.slice _ n _)=>n | _=>0
structure OnWay (g:Plain.Gr) (p:Plain.Pt) (turn:List (List Int)) (w2 W:World) (mb ob rb D wb:Nat) (L0 F:List Plain.Face) (d:Int) (L:List Int) (v:Value) (f:Int→Option Int) (wi:World):Prop where
 box:wi.heap[wb]?=some (.cells #[.int .i64 d,v] 120 (0,0))
 row:RowAt wi (wb+1) v L
 out:OutW w2.heap.size wi ob wb (L0++F)
 left:IMap wi mb p.darts.length f
 f:∀ y,f y≠none↔y∈p.darts∧y ∉ Plain.flat F∧y ∉ L
 lbox:wi.heap[mb+1]?=some (.cells #[.map (some mb)] 93 (0,0))
 rbox:wi.heap[w2.heap.size]?=some (.cells #[.pointer (some ⟨rb,0,none⟩)] 174 (0,0))
 dfr:wi.heap[D]?=some (.deferred (some []))
 chg:Chg [mb] W wi
theorem OnWay.len {g:Plain.Gr} {p:Plain.Pt} {turn:List (List Int)} {w2 W:World} {mb ob rb D wb:Nat} {L0 F:List Plain.Face} {d:Int} {L:List Int} {v:Value} {f:Int→Option Int} {wi:World} (h:OnWay g p turn w2 W mb ob rb D wb L0 F d L v f wi):rowLen wi wb=L.length:=by
 obtain⟨ao,c,e⟩:=h.row.shape
 have hb:=h.box
 rw[e] at hb
 unfold rowLen
 rw[(cell_of_row _ _ 1 _ _ _ hb).trans (show _=some (Value.slice ao L.length c) from rfl)]
theorem OnWay.step {g:Plain.Gr} {p:Plain.Pt} {turn:List (List Int)} {w2 W:World} {mb ob rb D:Nat} {L0 F:List Plain.Face} {d z:Int} {L:List Int} {v v':Value} {f:Int→Option Int} {wi w6 w7:World} (h:OnWay g p turn w2 W mb ob rb D W.heap.size L0 F d L v f wi)
  (h1:mb+1<W.heap.size) (h2:D<W.heap.size) (h3:w2.heap.size<W.heap.size) (hg:wi.grownBy w6 (some mb)) (hm:IMap w6 mb p.darts.length (fun y=>if y=z then none else f y)) (hr:RowAt w7 (W.heap.size+1) v' (L++[z])) (hc:Chg (foot v) w6 w7) :
  OnWay g p turn w2 W mb ob rb D W.heap.size L0 F d (L++[z]) v' (fun y=>if y=z then none else f y) (w7.setCell ⟨W.heap.size,1,none⟩ v'):=by
 have c1:Chg [mb] wi w6:=(Chg.refl _ _).grown hg (fun j hj=>by cases hj;exact Or.inl (by simp))
 have c3:Chg [W.heap.size] w7 (w7.setCell ⟨W.heap.size,1,none⟩ v'):=(Chg.refl _ _).setCell (Or.inl (by simp)) _
 have low:∀ j∈foot v,W.heap.size+1≤j:=fun j hj=>(h.row.low j (by rw[←h.row.foot];exact hj)).1
 have heap:∀ {b:Nat} {o:Obj},wi.heap[b]?=some o→b≠mb→b<W.heap.size→(w7.setCell ⟨W.heap.size,1,none⟩ v').heap[b]?=some o:=fun hb hne hlt =>
  c3.heap (hc.heap (c1.heap hb (by simpa using hne)) (fun e=>by have:=low _ e;omega)) (by simp;omega)
 have hb7:=hc.heap (c1.heap h.box (by simp;omega)) (fun e=>by have:=low _ e;omega)
 have hmb:∀ {b:Nat} {cs:Array Value} {t:TypeId} {r:Nat × Nat},wi.heap[b]?=some (.cells cs t r)→b≠mb:=fun hb=>h.left.ne hb
 refine⟨heap_setCell_same hb7 1 v',hr.chg c3 (fun b hb e=>by have:=(hr.low b hb).1;simp at e;omega),((h.out.keep c1 (fun j hj=>Or.inr (fun cs t r e=>by simp at hj;subst hj;exact h.left.ne e rfl))).keep hc (fun j hj=>Or.inl (by have:=low j hj;omega))).keep c3 (fun j hj=>Or.inl (by simp at hj;omega)),
  (hm.chg hc (fun e=>by have:=low _ e;omega)).chg c3 (by simp;omega),fun y=>?_,heap h.lbox (by omega) h1,heap h.rbox (hmb h.rbox) h3,heap h.dfr (fun e=>?_) h2,((h.chg.trans c1 (fun j hj=>Or.inl hj)).trans hc (fun j hj=>Or.inr (by have:=low j hj;omega))).trans c3 (fun j hj=>Or.inr (by simp at hj;omega))⟩
 ·by_cases e:y=z
  ·rw[if_pos e,e];simp
  rw[if_neg e,h.f y];simp[e]
 obtain⟨Dm,⟨es,clock,he,_⟩,_⟩:=h.left
 have:=h.dfr
 rw[e,he] at this
 cases this
section
attribute [local go_sem] Oper.semAt_some
set_option maxRecDepth 100000 in
set_option maxHeartbeats 4000000 in
theorem walks_any (vg vp vt:Value) (g:Plain.Gr) (p:Plain.Pt) (turn:List (List Int)) (w:World) (hpl:p.e.length≤1000000) (hpv:p.v.length≤1000000) (hTL:turn.length<2147483648) (hS:Plain.sumLen turn turn.length<2147483648) (hg:GrAt w vg g) (hp:PtAt w vp p) (ht:RowsAt w vt turn) :
  Calls Tryz.prog 91 #[vg,vp,vt] w fun e w'=>∃ ov,e=.returned (.tuple #[ov,.int .i64 (Plain.turnErr g p turn)])∧(Plain.turnErr g p turn≠0→ov=.slice none 0 0) ∧
   (Plain.turnErr g p turn=0→∃ W xs,Plain.WalksOk g p turn W∧Nest w' w.heap.size 120 2 ov W.length xs (faceCells W))∧Chg [] w w':=by
 have HG:=lh hg
 have HP:=lh hp
 have HT:=lh ht
 have HSL:=lh hS
 obtain⟨eo,cap,rfl,-,-,-,-⟩:=hg
 obtain⟨v1,v2,rfl,hv,he⟩:=hp
 obtain⟨ao,ac,rfl,has,hal,hacell⟩:=hv
 obtain⟨bo,bc,rfl,-,-,-⟩:=he
 obtain⟨tto,tc,rfl,htl,htc⟩:=ht
 have HAC:=lh hacell
 have HAS:=lh has
 have HTC:=lh htc
 obtain⟨hb1,hb2,hc1⟩:=box_two w #[.int .i64 g.n,.slice eo g.e.length cap] #[.slice ao p.v.length ac,.slice bo p.e.length bc] 24 29
 have Y0:=lh ((cell_of_row _ _ 0 _ _ _ hb2).trans (show _=some (Value.slice ao p.v.length ac) from rfl))
 have HC1:=lh hc1
 clear hacell has hb1 hb2 hc1 htc hS
 refine (callsIn_wide (n:=9)).1 (callsIn_of_wp_marks Tryz.func91 rfl trivial (wpIn_wide.2 ?_) rfl)
 simp only[Tryz.ntmps91,List.size_toArray,List.length_cons,List.length_nil,Nat.reduceAdd,Nat.reduceSub,Array.replicate_succ,Array.replicate_zero,List.push_toArray,List.append_toArray,List.nil_append,List.cons_append]
 go_wp2_with fail
 refine (rotaNew_any _ _ _ g p turn _ hpl hpv hTL HSL.out (HG.out.fresh HC1.out) (HP.out.fresh HC1.out) (HT.out.fresh HC1.out)).mono ?_
 rintro e w2 ⟨r,rfl,hr1,hr2,hc2⟩
 have HC2:=lh (HC1.out.trans hc2 (by simp))
 have HSZ2:=lh (show w.heap.size+2≤w2.heap.size by have:=hc2.size;simpa using this)
 have Y2:=lh (hc2.cell Y0.out (by simp))
 clear hc2
 by_cases hr:Plain.turnErr g p turn=0
 ·have HR:=lh hr
  obtain⟨rb,vt',vd,lb,pb,n,m,rfl,hrb,hrota⟩:=hr2 hr
  have HRO:=lh hrota
  have HRB:=lh hrb
  have y2:=cellNew Y2.out (.cells #[.pointer (some ⟨rb,0,none⟩)] 174)
  have y3:=cellNew y2 (.cells #[.slice none 0 0] 116)
  rw[hr]
  clear hr1 hr2 hrota hrb
  go_wp2
  clear y2 y3
  have HSZ:=lh (show w2.heap.size+2=((w2.alloc (.cells #[.pointer (some ⟨rb,0,none⟩)] 174)).alloc (.cells #[.slice none 0 0] 116)).heap.size by simp)
  have HC3:=lh (((Chg.refl [] w2).alloc (.cells #[.pointer (some ⟨rb,0,none⟩)] 174)).alloc (.cells #[.slice none 0 0] 116))
  have HRBX:=lh ((box_two w2 #[.pointer (some ⟨rb,0,none⟩)] #[.slice none 0 0] 174 116).1)
  have HOB:=lh ((box_two w2 #[.pointer (some ⟨rb,0,none⟩)] #[.slice none 0 0] 174 116).2.1)
  obtain⟨ob,hob⟩:∃ ob,w2.heap.size+1=ob:=⟨_,rfl⟩
  rw[hob] at HOB ⊢
  have HOBE:=lh hob
  have HOW:=lh (show OutW w2.heap.size ((w2.alloc (.cells #[.pointer (some ⟨rb,0,none⟩)] 174)).alloc (.cells #[.slice none 0 0] 116)) ob (ob+1) [] from⟨⟨_,[],HOB.out,Nest.nil _ _ _ _,by simp[Value.ownBlock],by simp⟩,by omega⟩)
  generalize ((w2.alloc (.cells #[.pointer (some ⟨rb,0,none⟩)] 174)).alloc (.cells #[.slice none 0 0] 116))=w3 at *
  clear hob
  go_loopw [11] (fun c wr=>∃ k:Nat,k≤p.v.length∧c=.int .i64 ((k:Int) - 1)∧OutW w2.heap.size wr ob wr.heap.size (Plain.loneAt turn (p.v.drop k))∧Chg [] w2 wr∧Hid (wr.heap[w2.heap.size]?=some (.cells #[.pointer (some ⟨rb,0,none⟩)] 174 (0,0)))) (fun c _=>(intOf c+1).toNat)
  case atStart=>exact⟨p.v.length,Nat.le_refl _,by go_num,by rw[List.drop_length];exact HOW.out.up (by have:=HSZ.out;have:=HOBE.out;omega),HC3.out,HRBX⟩
  case round =>
   obtain⟨k,hk,rfl,how,hc,hrx⟩:=hrel
   have HW:=lh how
   have HC:=lh hc
   by_cases h0:0<k
   ·obtain⟨j,rfl⟩:∃ j,k=j+1:=⟨k - 1,by omega⟩
    obtain⟨ab,aoff,rfl,hca⟩:=HAC.out (by intro e;rw[e] at hk;simp at hk)
    have hcj:=HC.out.cell (HC2.out.cell (hca j hk) (by simp)) (by simp)
    rw[show (((j+1:Nat):Int) - 1)=(j:Int) by omega]
    obtain⟨hpe,hto⟩:=Plain.turnErr_zero HR.out
    have hpo:=Plain.Pt.ok_of_err hpe
    have hvr:=hpo.vr (p.v.getD j 0) (by simp[List.getD,show j<p.v.length by omega])
    obtain⟨v,hve⟩:∃ v:Nat,p.v.getD j 0=(v:Int):=⟨(p.v.getD j 0).toNat,by omega⟩
    have HDR:=lh (show Plain.loneAt turn (p.v.drop j)=Plain.loneAt turn (p.v.drop (j+1))++(if (turn.getD v []).isEmpty then [(-1 - (v:Int),[])] else []) by
     rw[List.drop_eq_getElem_cons (show j<p.v.length by omega),Plain.loneAt_step]
     have e1:p.v[j]=(v:Int):=by rw[←hve];simp[List.getD,show j<p.v.length by omega]
     rw[e1]
     unfold Plain.turnAt
     simp)
    have hvT:v<turn.length:=by have:=hto.len;omega
    have hvg:(v:Int)≤1024:=by have:=(Plain.Gr.err_ok (Plain.Pt.err_ok hpe).1).2.1;omega
    rw[hve] at hcj
    obtain⟨tb,toff,u,rfl,hu,-,hints⟩:=HTC.out v hvT
    have hcu:=HC.out.cell (HC2.out.cell hu (by simp)) (by simp)
    obtain⟨l,hlk⟩:∃ l,turn.getD v []=l:=⟨_,rfl⟩
    rw[hlk] at hints HDR
    obtain⟨uo,uc,rfl,-,-,-⟩:=hints
    have hy:=HC.out.cell Y2.out (by simp)
    have hjl:j<p.v.length:=by omega
    have hfl:(Plain.loneAt turn (p.v.drop (j+1))).length≤p.v.length:=by
     unfold Plain.loneAt
     rw[List.length_map]
     refine Nat.le_trans (List.length_filter_le _ _) ?_
     rw[List.length_reverse,List.length_drop]
     omega
    clear hca hpe hto hpo hvr hve hu hlk hc h0
    cases l with
    | nil =>
     obtain⟨ao',c',g',cap',w5,p1,p2,p3,p4,p5,own,p6,p7⟩:=how.push HC.out.size (by have:=HOBE.out;omega) (-1 - (v:Int)) (v:=.slice none 0 0) (l:=[]) ⟨World.ownsRow_nil _ _ _ _,by simp,by simp⟩ (by simp[foot,Value.ownBlock]) (by omega)
     have P5:=lh p5
     have P6:=lh p6
     have P7:=lh p7
     clear p5 p6 p7 how
     generalize Plain.loneAt turn (p.v.drop (j+1))=F0 at *
     have HP2:=lh p2
     clear p2
     have hbx:∀ {own:List Nat},Hid (∀ j∈own,j=ob∨(w2.heap.size≤j∧∃ cs r,wr.heap[j]?=some (.cells cs 120 r)))→Hid (wr.heap[w2.heap.size]?=some (.cells #[.pointer (some ⟨rb,0,none⟩)] 174 (0,0)))→w2.heap.size ∉ own:=fun h1 h2 e=>by
      rcases h1.out _ e with q | ⟨-,cs,r,q⟩
      ·have:=HOBE.out;omega
      rw[h2.out] at q;simp at q
     have HBX:=lh (hbx P7 hrx)
     clear hbx
     go_wp2_with (at_builtin;refine wl_apprun rfl (.tmp 50) (.tmp 54) _ rfl rfl rfl HP2.out ?_)
     have hlow:∀ j∈own,w2.heap.size≤j:=fun j hj=>by
      rcases P7.out j hj with q | ⟨q,-⟩
      ·have:=HOBE.out;omega
      exact (by assumption)
     go_roundw
     case rel=>exact⟨j,by omega,rfl,by rw[HDR.out];exact P5.out.up (by simp[World.setCell]),HC.out.trans P6.out (fun j hj=>Or.inr (hlow j hj)),lh (P6.out.heap hrx.out HBX.out)⟩
     case measure=>simp[intOf]
    | cons d0 l0 =>
     go_wp2
     go_roundw
     case rel=>exact⟨j,by omega,rfl,by rw[HDR.out];simpa using HW.out,HC.out,hrx⟩
     case measure=>simp[intOf]
   obtain rfl:k=0:=by omega
   generalize wr=wa at *
   rw[List.drop_zero] at how HW
   have hmm:=@run_makeMap Tryz.prog
   have hrb2:=(cell_of_row _ _ 0 _ _ _ hrx.out).trans (show _=some (Value.pointer (some ⟨rb,0,none⟩)) from rfl)
   have hrb3:=fun o=>cellNew hrb2 o
   have hrb4:=fun o o'=>cellNew (hrb3 o) o'
   clear how hc
   go_wp2_with fail
   refine (darts_any rb _).mono ?_
   rintro e w5 ⟨rfl,hw5⟩
   have hsz4:((wa.alloc (.map #[] 0)).alloc (.cells #[.map (some wa.heap.size)] 93)).heap.size=wa.heap.size+2:=by simp
   have hsz5:w5.heap.size=wa.heap.size+3:=by rw[hw5];simp
   rw[hsz4]
   have hpe:=(Plain.turnErr_zero HR.out).1
   have HPO:=lh (Plain.Pt.ok_of_err hpe)
   have HTO:=lh (Plain.turnErr_zero HR.out).2
   have HDS:=lh (fun (x:Int) (hx:x∈p.darts)=>Plain.dart_small hpe hx)
   have HMB:=lh (show IMap w5 wa.heap.size 0 (fun _=>none) by rw[hw5];exact ((IMap.made wa).alloc _).alloc _)
   have HLB:=lh (show w5.heap[wa.heap.size+1]?=some (.cells #[.map (some wa.heap.size)] 93 (0,0)) by
    rw[hw5]
    have:=heap_alloc_new (wa.alloc (.map #[] 0)) (.cells #[.map (some wa.heap.size)] 93)
    simp only[World.size_alloc] at this
    exact (((Chg.refl [] _).alloc _).heap this (by simp)))
   have HBS:=lh (show w5.cell? ⟨wa.heap.size+2,0,none⟩=some (.pointer (some ⟨rb,0,none⟩)) by
    rw[hw5]
    have:=heap_alloc_new ((wa.alloc (.map #[] 0)).alloc (.cells #[.map (some wa.heap.size)] 93)) (.cells #[.pointer (some ⟨rb,0,none⟩)] 174)
    rw[hsz4] at this
    exact (cell_of_row _ _ 0 _ _ _ this).trans rfl)
   have HC5:=lh (show Chg [] wa w5 by rw[hw5];exact (((Chg.refl [] wa).alloc _).alloc _).alloc _)
   have HRD:=lh HRO.out.darts
   have HRC:=lh ((cell_of_row _ _ 3 _ _ _ HRO.out.cells).trans (show _=some vd from rfl))
   have HIT:=lh (show ItAt w5 (wa.heap.size+2) rb vd (p.darts.attach.map (·.1)) by
    rw[List.attach_map_subtype_val]
    exact⟨HBS.out,(HC.out.trans HC5.out (by simp)).cell HRC.out (by simp),HRD.out.fresh (HC.out.trans HC5.out (by simp))⟩)
   have HRBL:=lh (lt_of_block HRO.out.cells)
   have HSZ6:=lh (show w2.heap.size≤wa.heap.size from HC.out.size)
   have hdl:p.darts.length≤2000000:=by rw[Plain.darts_length];omega
   clear hw5 hsz4 hmm hrb2 hrb3 hrb4 h0 hk hpe
   go_wp2
   refine (wpIn_wide (n:=9)).1 ?_
   refine wpIn_rangeFunc_ownG rfl (by decide) (gf:=204) (lb:=#[.pointer (some ⟨wa.heap.size+2,0,none⟩)]) rfl trivial (enters_of Tryz.func204 (by kernel_rfl) rfl)
    (darts_stops {x // x∈p.darts} (·.1) 8 (by decide) (wa.heap.size+2) rb vd p.darts.attach (by rw[List.length_attach];omega) w5 HIT.out) itKeeps_trans (fun W l o o' _ h1 h2 _=>itKeeps_put h1 h2) (Below.refl _ _) (fun _=>rfl)
    (Fill p.darts wa) (fun _ _ _=>False) (Fill.own (by omega))
    (fun _ _ _ _ _ hs _ _=>hs)
    ⟨_,HMB.out,by simp,HLB.out,HC5.out⟩ ?a1 ?assign ?body ?done ?stop
   case assign =>
    intro l x W K hK
    gi_wp2
    exact hK
   case body =>
    rintro l pre x W ⟨f,hm,hf,hlb,hcw⟩ hlt
    have HF:=lh hf
    have HM:=lh hm
    have HLW:=lh hlb
    have HCW:=lh hcw
    have c13:=(cell_of_row _ _ 0 _ _ _ hlb).trans (show _=some (Value.map (some wa.heap.size)) from rfl)
    obtain⟨x,hx⟩:=x
    have HX:=lh hx
    have IX:I64 x:=I64.mk (by have:=(HDS.out x hx).1;omega) (by have:=(HDS.out x hx).2;omega)
    have hpl2:pre.length<maxLen:=by rw[List.length_attach] at hlt;unfold maxLen;omega
    clear hf hm hlb hcw hlt
    dsimp only
    gi_wp2_with (gi_at_mapUpdate;refine wi_store _ rfl _ _ _ rfl HM.out hpl2 rfl IX IX rfl rfl ?_;intro w6 m6 g6;have M6:=lh m6;have G6:=lh g6;clear m6 g6)
    exact⟨KeepsFrom.of_grownBy G6.out (fun j e=>by cases e;omega),
     itKeeps_chg (w2:=w2) (by rw[List.attach_map_subtype_val];exact HRD.out) HRBL.out ((Chg.refl [wa.heap.size] W).grown G6.out (fun j hj=>by cases hj;exact Or.inl (by simp))) (fun j hj=>by have:=HSZ6.out;simp at hj;omega),
     _,by rw[List.length_append];exact M6.out,fun y=>by
      rw[List.map_append,List.mem_append]
      by_cases e:y=x
      ·subst e;simp
      rw[if_neg e];simp only[List.map_cons,List.map_nil,List.mem_singleton,e,or_false];exact HF.out y,
     ((Chg.refl [wa.heap.size] W).grown G6.out (fun j hj=>by cases hj;exact Or.inl (by simp))).heap HLW.out (by simp),
     HCW.out.grown G6.out (fun j hj=>by cases hj;exact Or.inr (Nat.le_refl _))⟩
   case done =>
    rintro D ys W hD rfl ⟨f,hm,hf,hlb,hcw⟩ hK
    have HK0:=lh hK
    have HCF:=lh (HC.out.trans hcw (by simp))
    have HDL:=lh (lt_of_block hK)
    have HOF:=lh ((HW.out.fresh hcw).up hcw.size)
    have HXF:=lh (hcw.heap hrx.out (by simp))
    have HMF:=lh hm
    have HFF:=lh hf
    have HLF:=lh hlb
    have HSF:=lh (show wa.heap.size+3≤W.heap.size by have:=lt_of_block hK;omega)
    have hrb2:=(cell_of_row _ _ 0 _ _ _ HXF.out).trans (show _=some (Value.pointer (some ⟨rb,0,none⟩)) from rfl)
    clear hm hf hlb hcw
    generalize W=wf at *
    go_wp2_with fail
    refine (darts_any rb _).mono ?_
    rintro e w7 ⟨rfl,hw7⟩
    have hsz7:w7.heap.size=wf.heap.size+1:=by rw[hw7];simp
    have HC7:=lh (show Chg [] wf w7 by rw[hw7];exact (Chg.refl [] wf).alloc _)
    have HIT7:=lh (show ItAt w7 wf.heap.size rb vd (p.darts.attach.map (·.1)) by
     rw[List.attach_map_subtype_val]
     refine⟨?_,(HCF.out.trans HC7.out (by simp)).cell HRC.out (by simp),HRD.out.fresh (HCF.out.trans HC7.out (by simp))⟩
     rw[hw7]
     exact (cell_of_row _ _ 0 _ _ _ (heap_alloc_new wf _)).trans rfl)
    have HM7:=lh (show Made g p turn w2 wa.heap.size ob rb D wf.heap.size [] w7 from
     ⟨[],_,by rw[List.append_nil];exact (HOF.out.fresh HC7.out).up HC7.out.size,by have:=HMF.out.chg HC7.out (by simp);rwa[List.length_attach] at this,fun y=>by rw[HFF.out y,List.attach_map_subtype_val];simp[Plain.flat],Plain.Trk.start g p turn,HC7.out.heap HLF.out (by simp),HC7.out.heap HXF.out (by simp),HC7.out.heap HK0.out (by simp),HCF.out.trans HC7.out (by simp),by rw[hw7];exact heap_alloc_new wf _⟩)
    clear hw7 hrb2 hK
    go_wp2
    refine (wpIn_wide (n:=9)).1 ?_
    refine wpIn_rangeFunc_ownG rfl (by decide) (gf:=204) (lb:=#[.pointer (some ⟨wf.heap.size,0,none⟩)]) rfl trivial (enters_of Tryz.func204 (by kernel_rfl) rfl)
     (darts_stops {x // x∈p.darts} (·.1) 8 (by decide) wf.heap.size rb vd p.darts.attach (by rw[List.length_attach];omega) w7 HIT7.out) itKeeps_trans (fun W l o o' _ h1 h2 _=>itKeeps_put h1 h2) (Below.refl _ _) (fun _=>rfl)
     (Made g p turn w2 wa.heap.size ob rb D wf.heap.size) (fun _ _ _=>False) (Made.own (by have:=HSF.out;omega) (by have:=HSF.out;have:=HSZ6.out;omega) (by have:=HDL.out;omega) (by omega))
     (fun _ _ _ _ _ hs _ _=>hs) HM7.out ?a2 ?assign2 ?body2 ?done2 ?stop2
    case assign2 =>
     intro l x W K hK
     gi_wp2
     exact hK
    case body2 =>
     rintro l pre x W ⟨F,f,k1,k2,k3,k4,k5,k6,k7,k8,k9⟩ hlt
     obtain⟨x,hx⟩:=x
     dsimp only
     have K1:=lh k1
     have K2:=lh k2
     have K3:=lh k3
     have K4:=lh k4
     have K5:=lh k5
     have K6:=lh k6
     have K7:=lh k7
     have K8:=lh k8
     have K9:=lh k9
     have HX:=lh hx
     have hxr:=HDS.out x hx
     have IX:I64 x:=I64.mk (by omega) (by omega)
     have HRDA:=lh (show IntsAt w2 vd (p.darts.attach.map (·.1)) by rw[List.attach_map_subtype_val];exact HRD.out)
     have c13:=(cell_of_row _ _ 0 _ _ _ k5).trans (show _=some (Value.map (some wa.heap.size)) from rfl)
     have HPL:=lh (show pre.length≤p.darts.length by rw[List.length_attach] at hlt;omega)
     clear k1 k2 k3 k4 k5 k6 k7 k8 k9 hlt
     by_cases hxf:x∈Plain.flat F
     ·have HXF:=lh hxf
      have HFN:=lh (show f x=none from Classical.byContradiction fun h=>((K3.out x).1 h).2 hxf)
      have HV:Hid ((f x).getD 0=0):=lh (by rw[HFN.out];rfl)
      have HT:Hid ((f x).isSome=false):=lh (by rw[HFN.out];rfl)
      clear hxf
      gi_wp2_with (gi_at_lookup;refine wi_look_any _ rfl _ _ rfl K2.out rfl IX rfl HV HT ?_)
      exact⟨KeepsFrom.refl _ _,⟨Nat.le_refl _,id⟩,F,f,K1.out,K2.out,K3.out,by rw[List.map_append];exact K4.out.skip HXF.out,K5.out,K6.out,K7.out,K8.out,K9.out⟩
     have HXF:=lh hxf
     obtain⟨u,hu⟩:∃ u,f x=some u:=Option.ne_none_iff_exists'.1 ((K3.out x).2 ⟨hx,hxf⟩)
     have HV:Hid ((f x).getD 0=u):=lh (by rw[hu];rfl)
     have HT:Hid ((f x).isSome=true):=lh (by rw[hu];rfl)
     clear hxf hu
     have c13n:=fun o=>cellNew c13 o
     gi_wp2_with (gi_at_lookup;refine wi_look_any _ rfl _ _ rfl K2.out rfl IX rfl HV HT ?_)
     have hsw:wa.heap.size+1<W.heap.size:=lt_of_block K5.out
     have hsd:D<W.heap.size:=lt_of_block K7.out
     have hs2:w2.heap.size<W.heap.size:=lt_of_block K6.out
     have HW1:=lh ((Chg.refl [wa.heap.size] W).alloc (.cells #[.int .i64 x,.slice none 0 0] 120))
     have HW0:=lh ((Chg.refl [] W).alloc (.cells #[.int .i64 x,.slice none 0 0] 120))
     have HOW0:=lh (show OnWay g p turn w2 W wa.heap.size ob rb D W.heap.size (Plain.loneAt turn p.v) F x [] (.slice none 0 0) f (W.alloc (.cells #[.int .i64 x,.slice none 0 0] 120)) from
      ⟨heap_alloc_new W _,⟨World.ownsRow_nil _ _ _ _,by simp,by simp⟩,K1.out.fresh HW0.out,K2.out.alloc _,fun y=>by rw[K3.out y];simp,HW0.out.heap K5.out (by simp),HW0.out.heap K6.out (by simp),HW0.out.heap K7.out (by simp),HW1.out⟩)
     clear c13n c13 HW0 HW1
     gi_loopw [19,20] (fun c19 c20 wi=>∃ (L:List Int) (z:Int) (ok:Bool) (v:Value) (f:Int→Option Int),c19=.int .i64 z∧c20=.bool ok∧OnWay g p turn w2 W wa.heap.size ob rb D W.heap.size (Plain.loneAt turn p.v) F x L v f wi∧Hid (Plain.Cur g p turn F x L z)∧Hid (ok=true↔(z ∉ Plain.flat F∧z ∉ L))∧Hid (L=[]→ok=true)) (fun _ _ wi=>p.darts.length - rowLen wi W.heap.size)
     case atStart=>exact⟨[],x,true,_,f,rfl,rfl,HOW0.out,lh (Plain.Cur.start hx),lh (by simp[HXF.out]),lh (fun _=>rfl)⟩
     case round =>
      obtain⟨L,z,ok,v,f,rfl,rfl,how,hcur,hok,hL⟩:=hrel
      have HOW:=lh how
      cases ok with
      | true =>
       obtain⟨zn,hzn⟩:∃ zn:Nat,z=(zn:Int):=⟨z.toNat,by have:=(HDS.out z hcur.out.mem).1;omega⟩
       subst hzn
       obtain⟨va,vc,rfl⟩:=how.row.shape
       have cb:=(cell_of_row _ _ 1 _ _ _ how.box).trans (show _=some (Value.slice va L.length vc) from rfl)
       have cl:=(cell_of_row _ _ 0 _ _ _ how.lbox).trans (show _=some (Value.map (some wa.heap.size)) from rfl)
       have HZD:=lh hcur.out.mem
       have hzr:=HDS.out (zn:Int) hcur.out.mem
       have IZ:I64 (zn:Int):=I64.mk (by omega) (by omega)
       have hok2:=hok.out.1 rfl
       have HOK:=lh hok2
       have hLd:L.length+1≤p.darts.length:=by
        have:=Plain.len_le_of_sub (l:=(zn:Int) :: L) (m:=p.darts) (List.nodup_cons.2 ⟨hok2.2,hcur.out.nodup⟩) (fun y hy=>by
         rcases List.mem_cons.1 hy with q | q
         ·rw[q];exact HZD.out
         exact (hcur.out.sub y q).1)
        simpa using this
       have HWB:=lh (lt_of_block how.box)
       clear how hok2
       gi_wp2_with (first
        | (gi_at_delete;refine wi_delete _ rfl _ _ rfl HOW.out.left rfl IZ rfl ?_;intro w6 m6 g6;have M6:=lh m6;have G6:=lh g6;have C6:=lh (show Chg [wa.heap.size] wr w6 from (Chg.refl _ _).grown g6 (fun j hj=>by cases hj;exact Or.inl (by simp)));have cb6:=C6.out.cell cb (by simp;omega);clear m6 g6)
        | (gi_at_builtin;obtain⟨v',w7,hr7,r7,c7,f7⟩:=run_app_read (w:=w6.alloc (.cells #[.int .i64 (zn:Int)] 3)) (B:=W.heap.size+1) (v:=.slice va L.length vc) (l:=L) (m:=[(zn:Int)]) (u:=.slice (some ⟨w6.heap.size,0,none⟩) 1 1) (HOW.out.row.chg (C6.out.alloc _) (fun b hb e=>by have:=(HOW.out.row.low b hb).1;simp at e;omega)) (lit_ints w6 IZ) (by have:=HWB.out;have:=C6.out.size;simp;omega) (by simp;omega) 27;refine wi_apprun rfl (.tmp 87) (.tmp 89) _ rfl rfl rfl hr7 ?_;obtain⟨va',vc',e7⟩:=r7.shape;obtain rfl:v'=.slice va' (L.length+1) vc':=(by rw[e7];simp);have R7:=lh r7;have C7:=lh (show Chg (foot (.slice va L.length vc)) w6 w7 from ((Chg.refl _ w6).alloc _).trans c7 (fun j hj=>Or.inl hj));have hb7:=C7.out.heap (C6.out.heap HOW.out.box (by simp;omega)) (fun e=>by have:=(HOW.out.row.low _ (by rw[←HOW.out.row.foot];exact e)).1;omega);have cb7:=(cell_of_row _ _ 1 _ _ _ hb7).trans (show _=some (Value.slice va L.length vc) from rfl);have z7:=free_at hb7 1;have HO8:=lh (HOW.out.step hsw hsd hs2 G6.out M6.out R7.out C7.out);have cr8:=(cell_of_row _ _ 0 _ _ _ HO8.out.rbox).trans (show _=some (Value.pointer (some ⟨rb,0,none⟩)) from rfl);have cl8:=(cell_of_row _ _ 0 _ _ _ HO8.out.lbox).trans (show _=some (Value.map (some wa.heap.size)) from rfl);clear hr7 r7 c7 f7 hb7 e7))
       generalize (w7.setCell ⟨W.heap.size,1,none⟩ (.slice va' (L.length+1) vc'))=w8 at *
       clear cb cl cb6 cb7 z7
       have HMX:=lh (show ∀ j∈[wa.heap.size],j∈([]:List Nat)∨w2.heap.size≤j from fun j hj=>Or.inr (by have:=HSZ6.out;simp at hj;omega))
       refine⟨trivial,?_⟩
       refine (CallsIn.inRound l (callsIn_wide.2 (next_some rb g p turn vt' vd lb pb n m zn w8 HPO.out HTO.out hTL HSL.out HZD.out (by omega) (HRO.out.fresh (K8.out.trans HO8.out.chg HMX.out))))).mono ?_
       rintro e w9 ⟨rfl,rfl⟩
       have hcn:=hcur.out.step HPO.out HTO.out HOK.out.1 HOK.out.2
       obtain⟨nx,hnx⟩:∃ nx:Nat,Plain.nextDart g turn (zn:Int)=(nx:Int):=⟨(Plain.nextDart g turn (zn:Int)).toNat,by have:=(HDS.out _ hcn.mem).1;omega⟩
       rw[hnx] at hcn ⊢
       have hnr:=(HDS.out _ hcn.mem).2
       have IN:I64 (nx:Int):=I64.mk (by omega) (by omega)
       have HCN:=lh hcn
       obtain⟨u9,hu9⟩:∃ u9,(if (nx:Int)=(zn:Int) then none else f nx).getD 0=u9:=⟨_,rfl⟩
       obtain⟨ok9,hok9⟩:∃ ok9,(if (nx:Int)=(zn:Int) then none else f nx).isSome=ok9:=⟨_,rfl⟩
       have HV9:Hid (((fun y=>if y=(zn:Int) then none else f y) (nx:Int)).getD 0=u9):=lh hu9
       have HT9:Hid (((fun y=>if y=(zn:Int) then none else f y) (nx:Int)).isSome=ok9):=lh hok9
       have HOK9:=lh (show ok9=true↔((nx:Int) ∉ Plain.flat F∧(nx:Int) ∉ L++[(zn:Int)]) by
        rw[←hok9,Option.isSome_iff_ne_none,HO8.out.f]
        exact⟨fun h=>h.2,fun h=>⟨hcn.mem,h⟩⟩)
       have HLEN:=lh (show rowLen w8 W.heap.size=L.length+1 by rw[HO8.out.len];simp)
       clear hu9 hok9 hcn hnx
       gi_wp2_with (gi_at_lookup;refine wi_look_any _ rfl _ _ rfl HO8.out.left rfl IN rfl HV9 HT9 ?_)
       go_roundw
       case rel=>exact⟨L++[(zn:Int)],(nx:Int),ok9,_,_,rfl,rfl,HO8.out,HCN,HOK9,lh (by simp)⟩
       case measure=>rw[HLEN.out,HOW.out.len];omega
      | false =>
       have hLne:L≠[]:=fun e=>by have:=hL.out e;cases this
       have hze:z∈Plain.flat F∨z∈L:=Classical.byContradiction fun h=>by
        have h1:z ∉ Plain.flat F:=fun e=>h (Or.inl e)
        have h2:z ∉ L:=fun e=>h (Or.inr e)
        have:=hok.out.2 ⟨h1,h2⟩
        cases this
       have HADD:=lh (K4.out.add hcur.out.nodup hcur.out.sub (hcur.out.ring HPO.out HTO.out K4.out hLne hze))
       clear hLne hze hL hok
       obtain⟨va,vc,rfl⟩:=how.row.shape
       have cb0:=(cell_of_row _ _ 0 _ _ _ how.box).trans (show _=some (Value.int .i64 x) from rfl)
       have cb:=(cell_of_row _ _ 1 _ _ _ how.box).trans (show _=some (Value.slice va L.length vc) from rfl)
       have hFl:(Plain.loneAt turn p.v++F).length<1000000000:=by
        have h1:(Plain.loneAt turn p.v).length≤p.v.length:=by
         unfold Plain.loneAt
         rw[List.length_map]
         refine Nat.le_trans (List.length_filter_le _ _) ?_
         rw[List.length_reverse]
         exact Nat.le_refl _
        have h2:=K4.out.keys.length_le
        rw[List.length_map,List.length_map] at h2
        have h3:=HPL.out
        rw[List.length_append]
        omega
       have HOBH:=lh how.out.ex
       obtain⟨ao',c',g',cap',w5',p1,p2,p3,p4,p5,own,p6,p7⟩:=how.out.push (by have:=K8.out.size;have:=how.chg.size;omega) (by have:=HOBE.out;omega) x (how.row.base (by omega)) (fun j hj=>by have:=(how.row.low j (by rw[←how.row.foot];exact hj)).1;omega) hFl
       have HP2:=lh p2
       have P5:=lh p5
       have P6:=lh p6
       have P7:=lh p7
       have HOBL:=lh HW.out.lt
       clear p2 p5 p6 p7 how hcur
       generalize hF0:Plain.loneAt turn p.v++F=F0 at *
       have HF0:=lh hF0
       clear hF0
       gi_wp2_with (gi_at_builtin;refine wi_apprun rfl (.tmp 98) (.tmp 100) _ rfl rfl rfl HP2.out ?_)
       have hno:∀ {b:Nat} {o:Obj},wr.heap[b]?=some o→b≠ob→(∀ cs r,o≠.cells cs 120 r)→b ∉ own:=fun hb hne ht e=>by
        rcases P7.out _ e with q | ⟨-,cs,r,q⟩
        ·exact hne q
        rw[hb] at q;cases q;exact ht _ _ rfl
       obtain⟨ov0,xs0,hob0,-⟩:=HOBH.out
       have hDob:D≠ob:=fun e=>by have:=HOW.out.dfr;rw[e,hob0] at this;cases this
       have hmbn:wa.heap.size ∉ own:=fun e=>by
        rcases P7.out _ e with q | ⟨-,cs,r,q⟩
        ·have:=HOBL.out;omega
        exact HOW.out.left.ne q rfl
       have hBsmb:wf.heap.size≠wa.heap.size:=by have:=HSF.out;omega
       have hBsr:=HOW.out.chg.heap K9.out (by simpa using hBsmb)
       have hBob:wf.heap.size≠ob:=by have:=HOBL.out;have:=HSF.out;omega
       have hown2:∀ j∈own,w2.heap.size≤j:=fun j hj=>by
        rcases P7.out _ hj with q | ⟨q,-⟩
        ·have:=HOBE.out;omega
        exact q
       have hBsn:wf.heap.size ∉ own:=hno hBsr hBob (fun cs r e=>by cases e)
       have htot:Chg ((wa.heap.size :: own).filter fun j=>decide (j<W.heap.size)) W _:=((HOW.out.chg.mono (own':=wa.heap.size :: own) (fun j hj=>Or.inl (by simp at hj;simp[hj]))).trans P6.out (fun j hj=>Or.inl (by simp[hj]))).mono (fun j hj=>by
        by_cases q:j<W.heap.size
        ·exact Or.inl (List.mem_filter.2 ⟨hj,by simpa using q⟩)
        exact Or.inr (by omega))
       have hcase:∀ j∈(wa.heap.size :: own).filter fun j=>decide (j<W.heap.size),(j<w7.heap.size∨∃ cs t r,W.heap[j]?=some (.cells cs t r))∧w2.heap.size≤j∧j≠wf.heap.size:=fun j hj=>by
        obtain⟨h1,h2⟩:=List.mem_filter.1 hj
        simp only[decide_eq_true_eq] at h2
        rcases List.mem_cons.1 h1 with q | q
        ·exact⟨Or.inl (by have:=HSF.out;omega),by have:=HSZ6.out;omega,by rw[q];exact Ne.symm hBsmb⟩
        refine⟨?_,hown2 j q,fun e=>hBsn (e ▸ q)⟩
        rcases P7.out _ q with r | ⟨-,cs,r,hh⟩
        ·exact Or.inl (by have:=HOBL.out;have:=HSF.out;omega)
        refine Or.inr ⟨cs,120,r,?_⟩
        rw[←HOW.out.chg.block j h2 (fun e=>by simp at e;rw[e] at hh;exact HOW.out.left.ne hh rfl)]
        exact hh
       refine⟨keepsFrom_chg htot (fun j hj=>(hcase j hj).1),itKeeps_chg HRDA.out HRBL.out htot (fun j hj=>(hcase j hj).2),F++[(x,L)],f,?_,HOW.out.left.chg P6.out hmbn,fun y=>?_,by rw[List.map_append];exact HADD.out,P6.out.heap HOW.out.lbox (hno HOW.out.lbox (by have:=HOBL.out;omega) (fun cs r e=>by cases e)),P6.out.heap HOW.out.rbox (hno HOW.out.rbox (by have:=HOBE.out;omega) (fun cs r e=>by cases e)),P6.out.heap HOW.out.dfr (hno HOW.out.dfr hDob (fun cs r e=>by cases e)),(K8.out.trans HOW.out.chg (fun j hj=>Or.inr (by have:=HSZ6.out;simp at hj;omega))).trans P6.out (fun j hj=>Or.inr (hown2 j hj)),P6.out.heap hBsr hBsn⟩
       ·rw[←List.append_assoc,HF0.out]
        exact P5.out.up (by simp[World.setCell])
       rw[HOW.out.f y,Plain.flat_snoc,List.mem_append]
       simp only[not_or]
    case done2 =>
     rintro D2 ys W hD2 rfl ⟨F,f,k1,k2,k3,k4,k5,k6,k7,k8,k9⟩ hK2
     rw[List.attach_map_subtype_val] at k4
     have HWK:=lh (k4.walks HPO.out)
     obtain⟨⟨ov,xs,h1,h2,-,-⟩,-⟩:=k1
     obtain⟨oo,oc,rfl⟩:=h2.shape
     have c10:=(cell_of_row _ _ 0 _ _ _ h1).trans (show _=some (Value.slice oo (Plain.loneAt turn p.v++F).length oc) from rfl)
     have HN:=lh h2
     have HK2:=lh hK2
     have HKD:=lh k7
     have HC8:=lh k8
     have HDD:=lh (lt_of_block k7)
     clear k2 k3 k4 k5 k6 k7 k8 k9 h1 h2 hK2
     generalize Plain.loneAt turn p.v++F=WW at *
     go_wp2
     have HCD:=lh ((Chg.refl [D2] W).grown (grownBy_putObj' W D2 (.deferred none)) (fun j hj=>by cases hj;exact Or.inl (by simp)))
     have HKD1:=lh (HCD.out.heap HKD.out (by have:=HDL.out;simp;omega))
     have HCE:=lh ((Chg.refl [D] (W.putObj D2 (.deferred none))).grown (grownBy_putObj' _ D (.deferred none)) (fun j hj=>by cases hj;exact Or.inl (by simp)))
     refine⟨by simp,.inl ⟨_,_,rfl,run_takeDeferred HK2.out,?_⟩⟩
     refine⟨by simp,.inl ⟨_,_,rfl,run_takeDeferred HKD1.out,?_⟩⟩
     refine⟨.tuple #[.slice oo WW.length oc,.int .i64 0],by simp[results,Tryz.results91,go_sem],?_⟩
     rw[HR.out]
     refine⟨_,rfl,fun h=>absurd rfl h,fun _=>⟨WW,xs,HWK.out,?_⟩,?_⟩
     ·refine ((HN.out.other HCD.out (fun j hj cs t r hh=>?_)).other HCE.out (fun j hj cs t r hh=>?_)).base (by have:=HSZ2.out;omega)
      ·simp at hj;subst hj;rw[HK2.out] at hh;cases hh
      simp at hj;subst hj;rw[HKD1.out] at hh;cases hh
     exact ((HC2.out.trans HC8.out (by simp)).trans HCD.out (fun j hj=>Or.inr (by have:=HDL.out;have:=HSF.out;have:=HSZ6.out;have:=HSZ2.out;simp at hj;omega))).trans HCE.out (fun j hj=>Or.inr (by have:=HSF.out;have:=HSZ6.out;have:=HSZ2.out;simp at hj;omega))
    case stop2 =>
     rintro D2 c pre W _ _ h _
     exact h.elim
   case stop =>
    rintro D c pre W _ _ h _
    exact h.elim
 have HR:=lh hr
 obtain rfl:=hr1 hr
 clear hr1 hr2
 have HC9:=lh (HC2.out.trans ((Chg.refl [] w2).alloc (.cells #[.pointer none] 174)) (by simp))
 obtain⟨er,her⟩:∃ er,Plain.turnErr g p turn=er:=⟨_,rfl⟩
 have HER:=lh her
 rw[her] at hr HR ⊢
 clear her
 go_wp2
 refine⟨.tuple #[.slice none 0 0,.int .i64 er],by simp[results,Tryz.results91,go_sem],?_⟩
 rw[HER.out]
 exact⟨_,rfl,fun _=>rfl,fun h=>absurd h HR.out,HC9.out⟩
end
end Go.Proofs.YtkacjmoamgjfpaaGreat
