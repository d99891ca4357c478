/- law 17's awake: it answers true. No condition. -/
import Derived.Test.YtkacjmoamgjfpaaGreatA9Homes
import Derived.Test.YtkacjmoamgjfpaaGreatA9Span
namespace Go.Proofs.YtkacjmoamgjfpaaGreat
open Go.RowKit Go.Maps
namespace aA
def ph:Pt:=⟨[0,1,2],[0,1,2]⟩
theorem aEt:ph.err g1=0:=by decide
theorem aG8:bA ph.e t1=t1:=by decide
theorem aGV:bA p1.e t1=t1:=by decide
theorem aIH:Trk g1 ph t1 [(0,[0,2,4]),(1,[1,5,3])] ph.aK:=by
 refine⟨⟨fun c hc=>?_,by decide⟩,by decide,fun f hf=>?_,by decide,fun f hf=>?_,by decide⟩
 ·simp only[List.map_cons,List.map_nil,List.mem_cons,List.not_mem_nil,or_false] at hc
  rcases hc with rfl | rfl
  ·exact⟨by decide,by decide,show bT g1 t1 4=0 by decide⟩
  exact⟨by decide,by decide,show bT g1 t1 3=1 by decide⟩
 ·simp only[List.mem_cons,List.not_mem_nil,or_false] at hf
  rcases hf with rfl | rfl
  ·exact⟨_,rfl⟩
  exact⟨_,rfl⟩
 simp only[List.mem_cons,List.not_mem_nil,or_false] at hf;rcases hf with rfl | rfl
 ·exact⟨[],[1,2,3,4,5],by decide,by decide⟩
 exact⟨[0],[2,3,4,5],by decide,by decide⟩
theorem aDi:aH g1 ph t1=[(0,[0,2,4]),(1,[1,5,3])]:=by
 have h:bV g1 ph t1 (bW t1 ph.v++[(0,[0,2,4]),(1,[1,5,3])]):=Trk.walks (Pt.aQ aEt) aIH;rw[←h.eq aEt];decide
theorem aH6:aJ g1 p1 t1 [[-4,0]]=[[-4,0],[1]]:=by
 have hpt:=iN (aAx (Or.inl rfl)) (by rw[kZ];exact aGv);refine (iO.eq hpt ⟨?_,?_⟩).symm
 ·unfold eQ
  rw[kZ];decide
 decide
theorem aHW:cL g1 p1 ph t1 [[-4,0]]=[]:=by
 unfold cL;rw[aH6,kZ,aG8,aDi];decide
theorem aHU (u:Int):u∈([0,1,2]:List Int)↔dT g1 ph (-1) 0 u:=(aDO u).trans ⟨dT.congr rfl,dT.congr rfl⟩
theorem aIt:comp g1 ph 0=[0,1,2]:=by
 have:comp g1 ph 0=ph.v.filter fun u=>decide (u∈([0,1,2]:List Int)):=by
  unfold comp;exact List.filter_congr fun u _=>by rw[decide_eq_decide];exact (aHU u).symm
 rw[this];decide
theorem aGr:roots g1 ph=[0]:=by
 have h1:∀ v:Int,v∈ph.v→((∀ u∈ph.v,dT g1 ph (-1) v u→v≤u)↔v=0):=by
  intro v hv;have hc:=((aHU v).1 hv).symm (by decide);refine⟨fun h=>?_,fun e u hu _=>?_⟩
  ·have h2:=h 0 (by decide) hc.2
   simp only[ph,List.mem_cons,List.not_mem_nil,or_false] at hv;omega
  simp only[ph,List.mem_cons,List.not_mem_nil,or_false] at hu;omega
 have:roots g1 ph=ph.v.filter fun v=>decide (v=0):=by
  unfold roots;exact List.filter_congr fun u hu=>by rw[decide_eq_decide];exact h1 u hu
 rw[this];decide
theorem aH0:cD g1 ph t1=0:=by
 refine gR (fV aEt ?_) fun r hr=>?_
 ·refine lV (Pt.aQ aEt) rfl fun v hv=>?_
  have hv:(v:Int)<4:=hv;rcases (show v=0∨v=1∨v=2∨v=3 by omega) with rfl | rfl | rfl | rfl <;> (unfold nN;decide)
 rw[aDi];rw[aGr] at hr;unfold cC;rw[List.mem_singleton.1 hr,aIt];decide
theorem aHY:aN g1 ph t1 []=0:=by
 have h:vB g1 ph t1=0:=by unfold vB;rw[if_neg (by rw[aH0];exact fun q=>q rfl),aGr];rfl
 have:=aE9 h;rwa[show t1.map first=t1 by decide] at this
theorem aHX:cL g1 p1 p1 t1 [[-4,0]]=[[-4,0]]:=by
 unfold cL;rw[aH6,kZ,aGV,kZ];decide
theorem aIG:aJ g1 ph t1 []=[[0],[1]]:=by
 have hpt:=iN aHY (bS aEt (bC (bY aH0).1).2);refine (iO.eq hpt ⟨?_,?_⟩).symm
 ·unfold eQ
  rw[aDi];decide
 decide
theorem orh:eZ ph ⟨[3],[]⟩=p1:=by
 show (⟨orL [0,1,2] [3],orL [0,1,2] []⟩:Pt)=p1;rw[pN];simp[orL,p1]
theorem aIq:aAm g1 [0,1,2]=ph:=by
 show (⟨lI g1 [0,1,2] 4,[0,1,2]⟩:Pt)=⟨[0,1,2],[0,1,2]⟩;rw[show lI g1 [0,1,2] 4=[0,1,2] by decide]
theorem aH5:iU g1 p1 ph t1 [[-4,0]] 3=some 0:=by
 unfold iU;rw[if_neg (by rintro (q | q | q);exact q (aAx (Or.inl rfl));exact q aEt;exact q (by decide)),if_neg (by decide),if_neg (by decide)];unfold rZ;rw[orh,aG8,aGV,aHW,aHX,aIG,aH6];decide
end aA
theorem aCg (args:Array Value) (w:World):(callFunc 55 args).run Tryz.prog w=.ok (.enter 55 args) w:=by kernel_rfl
theorem kept {w w':World} {b:Nat} {o:Obj} (hc:Chg [] w w') (h:w.heap[b]?=some o):w'.heap[b]?=some o:=hc.heap h (by simp)
set_option maxRecDepth 100000 in
set_option maxHeartbeats 4000000 in
theorem uI (w:World):Calls Tryz.prog 11 #[] w fun e w'=>e=.returned (.bool true)∧Chg [] w w':=by
 have HXC:=lh (show Chg [] w ((w.alloc (.cells #[.int .i64 0,.int .i64 1,.int .i64 1,.int .i64 2,.int .i64 2,.int .i64 0] 82)).alloc (.cells #[.int .i64 4,.slice (some ⟨w.heap.size,0,none⟩) 3 3] 24)) from (show Chg [] w ((w.alloc (.cells #[.int .i64 0,.int .i64 1,.int .i64 1,.int .i64 2,.int .i64 2,.int .i64 0] 82)).alloc (.cells #[.int .i64 4,.slice (some ⟨w.heap.size,0,none⟩) 3 3] 24)) from (((Chg.refl [] w).alloc _).alloc _)));have qbx0:=heap_alloc_new w (.cells #[.int .i64 0,.int .i64 1,.int .i64 1,.int .i64 2,.int .i64 2,.int .i64 0] 82);replace qbx0:=(show Chg [] (w.alloc (.cells #[.int .i64 0,.int .i64 1,.int .i64 1,.int .i64 2,.int .i64 2,.int .i64 0] 82)) ((w.alloc (.cells #[.int .i64 0,.int .i64 1,.int .i64 1,.int .i64 2,.int .i64 2,.int .i64 0] 82)).alloc (.cells #[.int .i64 4,.slice (some ⟨w.heap.size,0,none⟩) 3 3] 24)) from ((Chg.refl [] (w.alloc (.cells #[.int .i64 0,.int .i64 1,.int .i64 1,.int .i64 2,.int .i64 2,.int .i64 0] 82))).alloc _)).heap qbx0 (by simp);have qbx1:=heap_alloc_new (w.alloc (.cells #[.int .i64 0,.int .i64 1,.int .i64 1,.int .i64 2,.int .i64 2,.int .i64 0] 82)) (.cells #[.int .i64 4,.slice (some ⟨w.heap.size,0,none⟩) 3 3] 24);rw[show (w.alloc (.cells #[.int .i64 0,.int .i64 1,.int .i64 1,.int .i64 2,.int .i64 2,.int .i64 0] 82)).heap.size=w.heap.size+1 by simp] at qbx1;have HX:=lh (fun (w2:World) (hbx:Chg [] ((w.alloc (.cells #[.int .i64 0,.int .i64 1,.int .i64 1,.int .i64 2,.int .i64 2,.int .i64 0] 82)).alloc (.cells #[.int .i64 4,.slice (some ⟨w.heap.size,0,none⟩) 3 3] 24)) w2)=>(⟨hbx.heap qbx0 (by simp),hbx.heap qbx1 (by simp),by have hz:=hbx.size;simpa using hz⟩:w2.heap[w.heap.size]?=some (.cells #[.int .i64 0,.int .i64 1,.int .i64 1,.int .i64 2,.int .i64 2,.int .i64 0] 82 (0,0))∧w2.heap[w.heap.size+1]?=some (.cells #[.int .i64 4,.slice (some ⟨w.heap.size,0,none⟩) 3 3] 24 (0,0))∧w.heap.size+2≤w2.heap.size));clear qbx0 qbx1;have HXZ:=lh (show ((w.alloc (.cells #[.int .i64 0,.int .i64 1,.int .i64 1,.int .i64 2,.int .i64 2,.int .i64 0] 82)).alloc (.cells #[.int .i64 4,.slice (some ⟨w.heap.size,0,none⟩) 3 3] 24)).heap.size=w.heap.size+2 by simp)
 go_enter Tryz.func11,Tryz.ntmps11
 go_wp2;generalize ((w.alloc (.cells #[.int .i64 0,.int .i64 1,.int .i64 1,.int .i64 2,.int .i64 2,.int .i64 0] 82)).alloc (.cells #[.int .i64 4,.slice (some ⟨w.heap.size,0,none⟩) 3 3] 24))=w1 at *;obtain⟨re,rg,hsz⟩:=HX.out _ (Chg.refl _ _);have x0:=(cell_of_row _ _ 0 _ _ _ rg).trans (show _=some (Value.int .i64 4) from rfl);have x1:=(cell_of_row _ _ 1 _ _ _ rg).trans (show _=some (Value.slice (some ⟨w.heap.size,0,none⟩) 3 3) from rfl);have HG:=lh (aGi re);have HRE:=lh re;have HGR:=lh rg;generalize w.heap.size=be at *;clear re rg hsz;refine wS (w0:=w1) [[],[],[1],[],[],[],[3,4,5],[],[7],[6,8],[0,2,9],[]] [10,11] (by kernel_rfl) (by kernel_rfl) (Chg.refl [] w1).drew ?_
 (intro fr hfr;simp only[kD,Act.put,List.setIfInBounds_toArray,List.set_cons_zero,List.set_cons_succ,Nat.reduceAdd] at hfr;obtain rfl:=funext (fun vals=>(hfr vals).symm);clear hfr;simp only[List.dropLast,List.zip_cons_cons,List.zip_nil_right])
 refine yT (c:=.agg #[.int .i64 4,.slice (some ⟨be,0,none⟩) 3 3]) rfl (fun vals w' hG hF=>⟨by rfl,by have q0:=hG.c x0;have q1:=hG.c x1;go_simp⟩) ?_;refine yT (c:=.agg #[.int .i64 4,.slice (some ⟨be,0,none⟩) 3 3]) rfl (fun vals w' hG hF=>⟨by rfl,by have q0:=hG.c x0;have q1:=hG.c x1;go_simp⟩) ?_;refine jT (fun v w=>∃ v1 v2,v=.agg #[v1,v2]∧aM w w1.heap.size v1 aA.p1.v∧aM w w1.heap.size v2 aA.p1.e) rfl (fun u w w' hc ⟨v1,v2,e,h1,h2⟩=>⟨v1,v2,e,h1.chg hc (by simp),h2.chg hc (by simp)⟩) (fun vals w' hG hF=>⟨by rfl,fun K hK=>aBy rfl aCg (args:=#[.agg #[.int .i64 4,.slice (some ⟨be,0,none⟩) 3 3]]) (congrArg (fun v=>[v]) hF.1) ((aEZ _ aA.g1 4 _ rfl (by decide) (by decide) (HG.out.fresh hG)).mono fun e w4 ⟨v1,v2,he,r1,r2,hc⟩=>⟨_,he,hK.out _ _ ⟨v1,v2,rfl,r1.base hG.size,r2.base hG.size⟩ hc⟩)⟩) ?_;refine jT (fun v w=>∃ b,v=.slice (some ⟨b,0,none⟩) 2 2∧w.heap[b]?=some (.cells #[.int .i64 0,.int .i64 5] 3)) rfl (fun u w w' hc ⟨b,e,h⟩=>⟨b,e,kept hc h⟩) (fun vals w' hG hF=>⟨by rfl,fun K hK=>by go_simp;exact hK.out _ _ ⟨_,rfl,heap_alloc_new _ _⟩ ((Chg.refl _ _).alloc _)⟩) ?_;refine jT (fun v w=>∃ b,v=.slice (some ⟨b,0,none⟩) 2 2∧w.heap[b]?=some (.cells #[.int .i64 1,.int .i64 2] 3)) rfl (fun u w w' hc ⟨b,e,h⟩=>⟨b,e,kept hc h⟩) (fun vals w' hG hF=>⟨by rfl,fun K hK=>by go_simp;exact hK.out _ _ ⟨_,rfl,heap_alloc_new _ _⟩ ((Chg.refl _ _).alloc _)⟩) ?_;refine jT (fun v w=>∃ b,v=.slice (some ⟨b,0,none⟩) 2 2∧w.heap[b]?=some (.cells #[.int .i64 3,.int .i64 4] 3)) rfl (fun u w w' hc ⟨b,e,h⟩=>⟨b,e,kept hc h⟩) (fun vals w' hG hF=>⟨by rfl,fun K hK=>by go_simp;exact hK.out _ _ ⟨_,rfl,heap_alloc_new _ _⟩ ((Chg.refl _ _).alloc _)⟩) ?_;refine jT (fun v w=>∃ b b0 b1 b2,v=.slice (some ⟨b,0,none⟩) 4 4∧w.heap[b]?=some (.cells #[.slice (some ⟨b0,0,none⟩) 2 2,.slice (some ⟨b1,0,none⟩) 2 2,.slice (some ⟨b2,0,none⟩) 2 2,.slice none 0 0] 27)∧w.heap[b0]?=some (.cells #[.int .i64 0,.int .i64 5] 3)∧w.heap[b1]?=some (.cells #[.int .i64 1,.int .i64 2] 3)∧w.heap[b2]?=some (.cells #[.int .i64 3,.int .i64 4] 3)) rfl
  (fun u w w' hc ⟨b,b0,b1,b2,e,h,h0,h1,h2⟩=>⟨b,b0,b1,b2,e,kept hc h,kept hc h0,kept hc h1,kept hc h2⟩) (fun vals w' hG hF=>⟨by rfl,fun K hK=>by
   simp only[jV,List.nil_append,List.cons_append,List.getD_cons_zero,List.getD_cons_succ,and_true] at hF;obtain⟨⟨b0,e3,h3⟩,⟨b1,e4,h4⟩,⟨b2,e5,h5⟩⟩:=hF;simp only[e3,e4,e5] at hK ⊢;go_simp;have hc:=(Chg.refl [] w').alloc (.cells #[.slice (some ⟨b0,0,none⟩) 2 2,.slice (some ⟨b1,0,none⟩) 2 2,.slice (some ⟨b2,0,none⟩) 2 2,.slice none 0 0] 27);exact hK.out _ _ ⟨_,b0,b1,b2,rfl,heap_alloc_new _ _,kept hc h3,kept hc h4,kept hc h5⟩ hc⟩) ?_
 refine jT (fun v w=>∃ b,v=.slice (some ⟨b,0,none⟩) 2 2∧w.heap[b]?=some (.cells #[.int .i64 (-4),.int .i64 0] 3)) rfl (fun u w w' hc ⟨b,e,h⟩=>⟨b,e,kept hc h⟩) (fun vals w' hG hF=>⟨by rfl,fun K hK=>by go_simp;exact hK.out _ _ ⟨_,rfl,heap_alloc_new _ _⟩ ((Chg.refl _ _).alloc _)⟩) ?_;refine jT (fun v w=>∃ b b4,v=.slice (some ⟨b,0,none⟩) 1 1∧w.heap[b]?=some (.cells #[.slice (some ⟨b4,0,none⟩) 2 2] 27)∧w.heap[b4]?=some (.cells #[.int .i64 (-4),.int .i64 0] 3)) rfl
  (fun u w w' hc ⟨b,b4,e,h,h0⟩=>⟨b,b4,e,kept hc h,kept hc h0⟩) (fun vals w' hG hF=>⟨by rfl,fun K hK=>by
   simp only[jV,List.nil_append,List.cons_append,List.getD_cons_zero,List.getD_cons_succ,and_true] at hF;obtain⟨b4,e7,h7⟩:=hF;simp only[e7] at hK ⊢;go_simp;have hc:=(Chg.refl [] w').alloc (.cells #[.slice (some ⟨b4,0,none⟩) 2 2] 27);exact hK.out _ _ ⟨_,b4,rfl,heap_alloc_new _ _,kept hc h7⟩ hc⟩) ?_
 refine jT (fun v w=>∃ b3 b5,v=.agg #[.slice (some ⟨b3,0,none⟩) 4 4,.slice (some ⟨b5,0,none⟩) 1 1]∧∃ b0 b1 b2 b4,w.heap[b3]?=some (.cells #[.slice (some ⟨b0,0,none⟩) 2 2,.slice (some ⟨b1,0,none⟩) 2 2,.slice (some ⟨b2,0,none⟩) 2 2,.slice none 0 0] 27)∧w.heap[b0]?=some (.cells #[.int .i64 0,.int .i64 5] 3)∧w.heap[b1]?=some (.cells #[.int .i64 1,.int .i64 2] 3)∧w.heap[b2]?=some (.cells #[.int .i64 3,.int .i64 4] 3)∧w.heap[b5]?=some (.cells #[.slice (some ⟨b4,0,none⟩) 2 2] 27)∧w.heap[b4]?=some (.cells #[.int .i64 (-4),.int .i64 0] 3)) rfl
  (fun u w w' hc ⟨b3,b5,e,b0,b1,b2,b4,h3,h0,h1,h2,h5,h4⟩=>⟨b3,b5,e,b0,b1,b2,b4,kept hc h3,kept hc h0,kept hc h1,kept hc h2,kept hc h5,kept hc h4⟩) (fun vals w' hG hF=>⟨by rfl,fun K hK=>by
   simp only[jV,List.nil_append,List.cons_append,List.getD_cons_zero,List.getD_cons_succ,and_true] at hF;obtain⟨⟨b3,b0,b1,b2,e6,h3,h0,h1,h2⟩,⟨b5,b4,e8,h5,h4⟩⟩:=hF;simp only[e6,e8] at hK ⊢;go_simp;exact hK.out _ _ ⟨b3,b5,rfl,b0,b1,b2,b4,h3,h0,h1,h2,h5,h4⟩ (Chg.refl _ _)⟩) ?_
 refine jT (fun v w=>∃ a1 c1 a2 c2 b3 b5,v=.agg #[.int .i64 4,.slice (some ⟨be,0,none⟩) 3 3,.slice a1 aA.p1.v.length c1,.slice a2 aA.p1.e.length c2,.slice (some ⟨b3,0,none⟩) 4 4,.slice (some ⟨b5,0,none⟩) 1 1]∧aM w w1.heap.size (.slice a1 aA.p1.v.length c1) aA.p1.v∧aM w w1.heap.size (.slice a2 aA.p1.e.length c2) aA.p1.e∧∃ b0 b1 b2 b4,w.heap[b3]?=some (.cells #[.slice (some ⟨b0,0,none⟩) 2 2,.slice (some ⟨b1,0,none⟩) 2 2,.slice (some ⟨b2,0,none⟩) 2 2,.slice none 0 0] 27)∧w.heap[b0]?=some (.cells #[.int .i64 0,.int .i64 5] 3)∧w.heap[b1]?=some (.cells #[.int .i64 1,.int .i64 2] 3)∧w.heap[b2]?=some (.cells #[.int .i64 3,.int .i64 4] 3)∧w.heap[b5]?=some (.cells #[.slice (some ⟨b4,0,none⟩) 2 2] 27)∧w.heap[b4]?=some (.cells #[.int .i64 (-4),.int .i64 0] 3)) rfl
  (fun u w w' hc ⟨a1,c1,a2,c2,b3,b5,e,r1,r2,b0,b1,b2,b4,h3,h0,h1,h2,h5,h4⟩=>⟨a1,c1,a2,c2,b3,b5,e,r1.chg hc (by simp),r2.chg hc (by simp),b0,b1,b2,b4,kept hc h3,kept hc h0,kept hc h1,kept hc h2,kept hc h5,kept hc h4⟩) (fun vals w' hG hF=>⟨by rfl,fun K hK=>by
   simp only[jV,List.nil_append,List.cons_append,List.getD_cons_zero,List.getD_cons_succ,and_true] at hF;obtain⟨e0,⟨v1,v2,e2,r1,r2⟩,⟨b3,b5,e9,b0,b1,b2,b4,h3,h0,h1,h2,h5,h4⟩⟩:=hF;obtain⟨a1,c1,rfl⟩:=r1.shape;obtain⟨a2,c2,rfl⟩:=r2.shape;simp only[e0,e2,e9] at hK ⊢;go_simp;exact hK.out _ _ ⟨a1,c1,a2,c2,b3,b5,rfl,r1,r2,b0,b1,b2,b4,h3,h0,h1,h2,h5,h4⟩ (Chg.refl _ _)⟩) ?_
 refine jT (fun v w=>∃ b,v=.pointer (some ⟨b,0,none⟩)∧w1.heap.size≤b∧w.heap[b]?=some (.cells #[.int .i64 0,.slice none 0 0,.slice none 0 0,.slice none 0 0,.slice none 0 0,.slice none 0 0] 34)) rfl
  (fun u w w' hc ⟨b,e,hb,h⟩=>⟨b,e,hb,kept hc h⟩) (fun vals w' hG hF=>⟨by rfl,fun K hK=>by go_simp;exact hK.out _ _ ⟨_,rfl,hG.size,heap_alloc_new _ _⟩ ((Chg.refl _ _).alloc _)⟩) ?_
 refine aE4 rfl (fun vals w2 hG hF=>⟨by rfl,fun K hK=>?_⟩);simp only[jV,List.nil_append,List.cons_append,List.getD_cons_zero,List.getD_cons_succ,and_true] at hF;obtain⟨⟨a1,c1,a2,c2,b3,b5,e10,r1,r2,b0,b1,b2,b4,h3,h0,h1,h2,h5,h4⟩,⟨cb,e11,hcb,hcr⟩⟩:=hF;simp only[e10,e11] at hK ⊢;have q0:=(cell_of_row _ _ 0 _ _ _ hcr).trans (show _=some (Value.int .i64 0) from rfl);have q1:=(cell_of_row _ _ 1 _ _ _ hcr).trans (show _=some (Value.slice none 0 0) from rfl);have q2:=(cell_of_row _ _ 2 _ _ _ hcr).trans (show _=some (Value.slice none 0 0) from rfl);have q3:=(cell_of_row _ _ 3 _ _ _ hcr).trans (show _=some (Value.slice none 0 0) from rfl);have q4:=(cell_of_row _ _ 4 _ _ _ hcr).trans (show _=some (Value.slice none 0 0) from rfl);have q5:=(cell_of_row _ _ 5 _ _ _ hcr).trans (show _=some (Value.slice none 0 0) from rfl);have f0:=bM hcr 0;have f1:=bM hcr 1;have f2:=bM hcr 2;have f3:=bM hcr 3;have f4:=bM hcr 4;have f5:=bM hcr 5;go_simp;refine hK.out _ _ ?_;clear hK K;have hne:∀ {b:Nat} {cs:Array Value} {t:TypeId},w2.heap[b]?=some (.cells cs t)→t≠34→b ∉ [cb]:=fun h ht e=>by
  rw[List.mem_singleton.1 e,hcr] at h;simp at h;exact ht h.2.symm
 have hset:Chg [cb] w2 ((((((w2.setCell ⟨cb,0,none⟩ (.int .i64 4)).setCell ⟨cb,1,none⟩ (.slice (some ⟨be,0,none⟩) 3 3)).setCell ⟨cb,2,none⟩ (.slice a1 aA.p1.v.length c1)).setCell ⟨cb,3,none⟩ (.slice a2 aA.p1.e.length c2)).setCell ⟨cb,4,none⟩ (.slice (some ⟨b3,0,none⟩) 4 4)).setCell ⟨cb,5,none⟩ (.slice (some ⟨b5,0,none⟩) 1 1)) :=
  ((((((Chg.refl _ w2).setCell (Or.inl (by simp)) _).setCell (Or.inl (by simp)) _).setCell (Or.inl (by simp)) _).setCell (Or.inl (by simp)) _).setCell (Or.inl (by simp)) _).setCell (Or.inl (by simp)) _
 have hfin:=heap_setCell_same (heap_setCell_same (heap_setCell_same (heap_setCell_same (heap_setCell_same (heap_setCell_same hcr 0 (.int .i64 4)) 1 (.slice (some ⟨be,0,none⟩) 3 3)) 2 (.slice a1 aA.p1.v.length c1)) 3 (.slice a2 aA.p1.e.length c2)) 4 (.slice (some ⟨b3,0,none⟩) 4 4)) 5 (.slice (some ⟨b5,0,none⟩) 1 1);have hre:=kept hG HRE.out;have hx:=(fun (h:w2.heap[be+1]?=some (.cells #[.int .i64 4,.slice (some ⟨be,0,none⟩) 3 3] 24))=>hset.heap h (hne h (by decide)));have hgr:=kept hG HGR.out;have hgr3:=hx hgr;have hpl:=aId (I64.mk (by decide) (by decide):I64 0) (hset.heap h0 (hne h0 (by decide))) (hset.heap h1 (hne h1 (by decide))) (hset.heap h2 (hne h2 (by decide))) (hset.heap h3 (hne h3 (by decide))) (hset.heap h4 (hne h4 (by decide))) (hset.heap h5 (hne h5 (by decide)));have hg3:=aGi (hset.heap hre (hne hre (by decide)));have hrow:∀ {v:Value} {l:List Int},aM w2 w1.heap.size v l→iB ((((((w2.setCell ⟨cb,0,none⟩ (.int .i64 4)).setCell ⟨cb,1,none⟩ (.slice (some ⟨be,0,none⟩) 3 3)).setCell ⟨cb,2,none⟩ (.slice a1 aA.p1.v.length c1)).setCell ⟨cb,3,none⟩ (.slice a2 aA.p1.e.length c2)).setCell ⟨cb,4,none⟩ (.slice (some ⟨b3,0,none⟩) 4 4)).setCell ⟨cb,5,none⟩ (.slice (some ⟨b5,0,none⟩) 1 1)) v l:=fun h=>by
  have h2:=h.chg hset (fun b hb e=>by
   obtain⟨cs,r,hh⟩:=cE h b (by rw[h.aP];exact hb);rw[List.mem_singleton.1 e,hcr] at hh;simp at hh)
  exact⟨h2.ints,gI.row h2⟩
 have HCASE:=lh (show jK _ (.agg #[.int .i64 4,.slice (some ⟨be,0,none⟩) 3 3,.slice a1 aA.p1.v.length c1,.slice a2 aA.p1.e.length c2,.slice (some ⟨b3,0,none⟩) 4 4,.slice (some ⟨b5,0,none⟩) 1 1]) aA.g1 aA.p1 aA.t1 [[-4,0]] from⟨_,_,_,_,_,_,rfl,hg3,⟨_,_,rfl,hrow r1,hrow r2⟩,hpl⟩);have HG3:=lh hg3;have k0:=(cell_of_row _ _ 0 _ _ _ hfin).trans (show _=some (Value.int .i64 4) from rfl);have k1:=(cell_of_row _ _ 1 _ _ _ hfin).trans (show _=some (Value.slice (some ⟨be,0,none⟩) 3 3) from rfl);have k2:=(cell_of_row _ _ 2 _ _ _ hfin).trans (show _=some (Value.slice a1 aA.p1.v.length c1) from rfl);have k3:=(cell_of_row _ _ 3 _ _ _ hfin).trans (show _=some (Value.slice a2 aA.p1.e.length c2) from rfl);have k4:=(cell_of_row _ _ 4 _ _ _ hfin).trans (show _=some (Value.slice (some ⟨b3,0,none⟩) 4 4) from rfl);have k5:=(cell_of_row _ _ 5 _ _ _ hfin).trans (show _=some (Value.slice (some ⟨b5,0,none⟩) 1 1) from rfl);have x0':=(cell_of_row _ _ 0 _ _ _ hgr3).trans (show _=some (Value.int .i64 4) from rfl);have x1':=(cell_of_row _ _ 1 _ _ _ hgr3).trans (show _=some (Value.slice (some ⟨be,0,none⟩) 3 3) from rfl);have HCW3:=lh ((HXC.out.t hG).trans hset (fun j hj=>Or.inr (by rw[List.mem_singleton.1 hj];exact Nat.le_trans HXC.out.size hcb)));have J0:∀ x:Int,-100≤x→x≤100→I64 x:=fun x a b=>I64.mk (by omega) (by omega);have HJ:=lh J0;have RL17:=lh (show ∀ i,(aA.t1.getD i []).length≤200 from fun i=>by rcases i with _ | _ | _ | _ | i <;> simp[aA.t1]);have SL17:=lh (show ∀ i,(([[-4,0]]:List (List Int)).getD i []).length≤10000 from fun i=>by rcases i with _ | i <;> simp);clear hne hset hfin hre hx hgr hgr3 hpl hg3 hrow q0 q1 q2 q3 q4 q5 f0 f1 f2 f3 f4 f5 r1 r2 h3 h0 h1 h2 h5 h4 hcr hcb hG e10 e11 J0 x0 x1;generalize ((((((w2.setCell ⟨cb,0,none⟩ (.int .i64 4)).setCell ⟨cb,1,none⟩ (.slice (some ⟨be,0,none⟩) 3 3)).setCell ⟨cb,2,none⟩ (.slice a1 aA.p1.v.length c1)).setCell ⟨cb,3,none⟩ (.slice a2 aA.p1.e.length c2)).setCell ⟨cb,4,none⟩ (.slice (some ⟨b3,0,none⟩) 4 4)).setCell ⟨cb,5,none⟩ (.slice (some ⟨b5,0,none⟩) 1 1))=w3 at *;go_wp2;have hS0:Chg [] w3 w3.drew:=(Chg.refl [] w3).drew;refine aF (Chg [] w3) [0,1,5,6,7,8] (Way.line [0,1,2,3,4,5,6,7,8,9] .done) (by kernel_rfl) (by kernel_rfl) ?_;simp only[Way.line];generalize w3.drew=wd at *
 repeat
  first
   | (refine aE rfl (by rfl) (by rfl) (fun _ _ _ h=>h) hS0 ?_;simp only[Act.put,Z1,Z2,Z3,Z4,Z5,Z6])
   | (refine aC (v:=?_) rfl (by rfl) (by rfl) (fun _ _ _ h=>h) hS0 (fun w' hS'=>?_) ?_;rotate_left;(focus (have rd0:=hS'.c k0;have rd1:=hS'.c k1;have rd2:=hS'.c k2;have rd3:=hS'.c k3;have rd4:=hS'.c k4;have rd5:=hS'.c k5;have rd6:=hS'.c x0';have rd7:=hS'.c x1';clear hS';go_simp;try with_reducible rfl));simp only[Act.put,Z1,Z2,Z3,Z4,Z5,Z6])
   | (refine aD rfl (by rfl) (by rfl) hS0 ?_;simp only[Act.put,Z1,Z2,Z3,Z4,Z5,Z6])
 refine aI rfl (by rfl) (by rfl) (fun K hK=>?_);go_simp;have HI:=lh (aEj wd (HJ.out 0 (by decide) (by decide)) (HJ.out 1 (by decide) (by decide)) (HJ.out 2 (by decide) (by decide)));have hS1:=hS0.alloc (.cells #[.int .i64 0,.int .i64 1,.int .i64 2] 3);refine hK.out _ _ (fun _=>hS1) ?_;clear hK K hS0;have hS0:=hS1;clear hS1
 try simp only[Act.put,Z1,Z2,Z3,Z4,Z5,Z6]
 generalize (wd.alloc (.cells #[.int .i64 0,.int .i64 1,.int .i64 2] 3))=w4 at *;generalize wd.heap.size=lb at *;refine aI rfl (by rfl) (by rfl) (fun K hK=>?_);go_simp;refine (aGI _ _ aA.g1 [0,1,2] _ (by decide) (by decide) (by decide) (HG3.out.fresh hS0) HI.out).mono ?_;rintro e w5 ⟨sv,rfl,hsp,hcx⟩;have hS1:=hS0.t hcx;clear hS0 hcx;have hS0:=hS1;clear hS1;refine hK.out _ _ (fun _=>hS0) ?_;clear hK K
 try simp only[Act.put,Z1,Z2,Z3,Z4,Z5,Z6]
 rw[aA.aIq] at hsp;have HSP:=lh hsp;obtain⟨s1,s2,s3,s4,rfl⟩:=hsp.shape;clear hsp;refine aI rfl (by rfl) (by rfl) (fun K hK=>?_);go_simp;refine (aFU _ _ aA.g1 aA.p1 aA.ph aA.t1 [[-4,0]] 3 _ (by decide) (by decide) (by decide) (by decide) (by decide) RL17.out (by decide) (by decide) SL17.out (HJ.out 3 (by decide) (by decide)) (fun _ _ _ _ _=>by rw[aA.orh,aA.aG8,aA.aGV,aA.aHW,aA.aHX];exact⟨aA.aHY,aA.aAx (Or.inl rfl)⟩) (HCASE.out.fresh hS0) HSP.out).mono ?_;rintro e w6 ⟨rfl,hcx⟩;have hS1:=hS0.t hcx;clear hS0 hcx;have hS0:=hS1;clear hS1;refine hK.out _ _ (fun _=>hS0) ?_;clear hK K
 try simp only[Act.put,Z1,Z2,Z3,Z4,Z5,Z6]
 rw[aA.aH5,show oB (some 0)=0 from rfl,show (some 0:Option Nat).isSome=true from rfl]
 repeat
  first
   | (refine aE rfl (by rfl) (by rfl) (fun _ _ _ h=>h) hS0 ?_;simp only[Act.put,Z1,Z2,Z3,Z4,Z5,Z6])
   | (refine aC (v:=?_) rfl (by rfl) (by rfl) (fun _ _ _ h=>h) hS0 (fun w' hS'=>?_) ?_;rotate_left;(focus (skip;clear hS';go_simp;try with_reducible rfl));simp only[Act.put,Z1,Z2,Z3,Z4,Z5,Z6])
   | (refine aD rfl (by rfl) (by rfl) hS0 ?_;simp only[Act.put,Z1,Z2,Z3,Z4,Z5,Z6])
 refine aI rfl (by rfl) (by rfl) (fun K hK=>?_);go_simp;refine hK.out _ _ (fun h=>absurd h (Bool.eq_false_iff.1 (by kernel_rfl))) ?_;clear hK K
 try simp only[Act.put,Z1,Z2,Z3,Z4,Z5,Z6]
 refine aG ?_;have HC6:=lh (HCW3.out.t hS0);have g0:=hS0.c k0;have g1:=hS0.c k1;have g2:=hS0.c k2;have g3:=hS0.c k3;have g4:=hS0.c k4;have g5:=hS0.c k5;have HCS6:=lh (HCASE.out.fresh hS0);clear k0 k1 k2 k3 k4 k5 x0' x1' hS0
 go_wp2_with fail
 refine (pZ _ aA.g1 aA.p1 aA.t1 [[-4,0]] _ (by decide) (by decide) (by decide) (by decide) (by decide) SL17.out HCS6.out).mono ?_;rintro e w7 ⟨rfl,hc7⟩;have HC7:=lh (HC6.out.t hc7);rw[aA.aAx (Or.inl rfl)];clear g0 g1 g2 g3 g4 g5 hc7;go_wp2;go_ret;exact⟨rfl,HC7.out⟩
end Go.Proofs.YtkacjmoamgjfpaaGreat
