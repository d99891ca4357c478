/- law 17's awake: it answers true. No condition. -/
import Derived.Test.YtkacjmoamgjfpaaGreatHxHomes
import Derived.Test.YtkacjmoamgjfpaaGreatHxSpan
namespace Go.Proofs.YtkacjmoamgjfpaaGreat
open Go.RowKit Go.Maps
namespace Plain
def ph:Pt:=⟨[0,1,2],[0,1,2]⟩
theorem errh:ph.err g1=0:=by decide
theorem turnh:restTurn ph.e t1=t1:=by decide
theorem turnp:restTurn p1.e t1=t1:=by decide
theorem trkh:Trk g1 ph t1 [(0,[0,2,4]),(1,[1,5,3])] ph.darts:=by
 refine⟨⟨fun c hc=>?_,by decide⟩,by decide,fun f hf=>?_,by decide,fun f hf=>?_,by decide⟩
 ·simp only[List.map_cons,List.map_nil,List.mem_cons,List.not_mem_nil,or_false] at hc
  rcases hc with rfl | rfl
  ·exact⟨by decide,by decide,show nextDart g1 t1 4=0 by decide⟩
  exact⟨by decide,by decide,show nextDart g1 t1 3=1 by decide⟩
 ·simp only[List.mem_cons,List.not_mem_nil,or_false] at hf
  rcases hf with rfl | rfl
  ·exact⟨_,rfl⟩
  exact⟨_,rfl⟩
 simp only[List.mem_cons,List.not_mem_nil,or_false] at hf
 rcases hf with rfl | rfl
 ·exact⟨[],[1,2,3,4,5],by decide,by decide⟩
 exact⟨[0],[2,3,4,5],by decide,by decide⟩
theorem walksh:walksOf g1 ph t1=[(0,[0,2,4]),(1,[1,5,3])]:=by
 have h:WalksOk g1 ph t1 (loneAt t1 ph.v++[(0,[0,2,4]),(1,[1,5,3])]):=Trk.walks (Pt.ok_of_err errh) trkh
 rw[←h.eq errh]
 decide
theorem regp:regionsOf g1 p1 t1 [[-4,0]]=[[-4,0],[1]]:=by
 have hpt:=parted (plan1w (Or.inl rfl)) (by rw[walksOf1];exact walks1)
 refine (IsRegs.eq hpt ⟨?_,?_⟩).symm
 ·unfold allRegs
  rw[walksOf1]
  decide
 decide
theorem sameh:restSame g1 p1 ph t1 [[-4,0]]=[]:=by
 unfold restSame
 rw[regp,walksOf1,turnh,walksh]
 decide
theorem planh:planErr g1 ph t1 []=0:=by
 have:=rest_right (plan1w (Or.inl rfl)) errh (by decide) (by decide)
 rwa[sameh,turnh] at this
theorem regh:regionsOf g1 ph t1 []=[[0],[1]]:=by
 have hpt:=parted planh (walks_ok errh (zero_ok planh).2)
 refine (IsRegs.eq hpt ⟨?_,?_⟩).symm
 ·unfold allRegs
  rw[walksh]
  decide
 decide
theorem orh:orPt ph ⟨[3],[]⟩=p1:=by
 show (⟨orL [0,1,2] [3],orL [0,1,2] []⟩:Pt)=p1
 rw[orL_nil]
 simp[orL,p1]
theorem spanh:spanPt g1 [0,1,2]=ph:=by
 show (⟨spanV g1 [0,1,2] 4,[0,1,2]⟩:Pt)=⟨[0,1,2],[0,1,2]⟩
 rw[show spanV g1 [0,1,2] 4=[0,1,2] by decide]
theorem home17:homeAt g1 p1 ph t1 [[-4,0]] 3=some 0:=by
 unfold homeAt
 rw[if_neg (by rintro (q | q | q);exact q (plan1w (Or.inl rfl));exact q errh;exact q (by decide)),if_neg (by decide),if_neg (by decide)]
 unfold homeRegs
 rw[orh,turnh,turnp,sameh,rest_same_all (plan1w (Or.inl rfl)),regh,regp]
 decide
end Plain
theorem enter_whole (args:Array Value) (w:World):(callFunc 55 args).run Tryz.prog w=.ok (.enter 55 args) w:=by kernel_rfl
theorem kept {w w':World} {b:Nat} {o:Obj} (hc:Chg [] w w') (h:w.heap[b]?=some o):w'.heap[b]?=some o:=hc.heap h (by simp)
set_option maxRecDepth 100000 in
set_option maxHeartbeats 4000000 in
theorem awake17_any (w:World):Calls Tryz.prog 11 #[] w fun e w'=>e=.returned (.bool true)∧Chg [] w w':=by
 have HXC:=lh (show Chg [] w ((w.alloc (.cells #[.int .i64 0,.int .i64 1,.int .i64 1,.int .i64 2,.int .i64 2,.int .i64 0] 82)).alloc (.cells #[.int .i64 4,.slice (some ⟨w.heap.size,0,none⟩) 3 3] 24)) from (show Chg [] w ((w.alloc (.cells #[.int .i64 0,.int .i64 1,.int .i64 1,.int .i64 2,.int .i64 2,.int .i64 0] 82)).alloc (.cells #[.int .i64 4,.slice (some ⟨w.heap.size,0,none⟩) 3 3] 24)) from (((Chg.refl [] w).alloc _).alloc _)))
 have qbx0:=heap_alloc_new w (.cells #[.int .i64 0,.int .i64 1,.int .i64 1,.int .i64 2,.int .i64 2,.int .i64 0] 82)
 replace qbx0:=(show Chg [] (w.alloc (.cells #[.int .i64 0,.int .i64 1,.int .i64 1,.int .i64 2,.int .i64 2,.int .i64 0] 82)) ((w.alloc (.cells #[.int .i64 0,.int .i64 1,.int .i64 1,.int .i64 2,.int .i64 2,.int .i64 0] 82)).alloc (.cells #[.int .i64 4,.slice (some ⟨w.heap.size,0,none⟩) 3 3] 24)) from ((Chg.refl [] (w.alloc (.cells #[.int .i64 0,.int .i64 1,.int .i64 1,.int .i64 2,.int .i64 2,.int .i64 0] 82))).alloc _)).heap qbx0 (by simp)
 have qbx1:=heap_alloc_new (w.alloc (.cells #[.int .i64 0,.int .i64 1,.int .i64 1,.int .i64 2,.int .i64 2,.int .i64 0] 82)) (.cells #[.int .i64 4,.slice (some ⟨w.heap.size,0,none⟩) 3 3] 24)
 rw[show (w.alloc (.cells #[.int .i64 0,.int .i64 1,.int .i64 1,.int .i64 2,.int .i64 2,.int .i64 0] 82)).heap.size=w.heap.size+1 by simp] at qbx1
 have HX:=lh (fun (w2:World) (hbx:Chg [] ((w.alloc (.cells #[.int .i64 0,.int .i64 1,.int .i64 1,.int .i64 2,.int .i64 2,.int .i64 0] 82)).alloc (.cells #[.int .i64 4,.slice (some ⟨w.heap.size,0,none⟩) 3 3] 24)) w2)=>(⟨hbx.heap qbx0 (by simp),hbx.heap qbx1 (by simp),by have hz:=hbx.size;simpa using hz⟩:w2.heap[w.heap.size]?=some (.cells #[.int .i64 0,.int .i64 1,.int .i64 1,.int .i64 2,.int .i64 2,.int .i64 0] 82 (0,0))∧w2.heap[w.heap.size+1]?=some (.cells #[.int .i64 4,.slice (some ⟨w.heap.size,0,none⟩) 3 3] 24 (0,0))∧w.heap.size+2≤w2.heap.size))
 clear qbx0 qbx1
 have HXZ:=lh (show ((w.alloc (.cells #[.int .i64 0,.int .i64 1,.int .i64 1,.int .i64 2,.int .i64 2,.int .i64 0] 82)).alloc (.cells #[.int .i64 4,.slice (some ⟨w.heap.size,0,none⟩) 3 3] 24)).heap.size=w.heap.size+2 by simp)
 go_enter Tryz.func11,Tryz.ntmps11
 go_wp2
 generalize ((w.alloc (.cells #[.int .i64 0,.int .i64 1,.int .i64 1,.int .i64 2,.int .i64 2,.int .i64 0] 82)).alloc (.cells #[.int .i64 4,.slice (some ⟨w.heap.size,0,none⟩) 3 3] 24))=w1 at *
 obtain⟨re,rg,hsz⟩:=HX.out _ (Chg.refl _ _)
 have x0:=(cell_of_row _ _ 0 _ _ _ rg).trans (show _=some (Value.int .i64 4) from rfl)
 have x1:=(cell_of_row _ _ 1 _ _ _ rg).trans (show _=some (Value.slice (some ⟨w.heap.size,0,none⟩) 3 3) from rfl)
 have HG:=lh (gr_tri re)
 have HRE:=lh re
 have HGR:=lh rg
 generalize w.heap.size=be at *
 clear re rg hsz
 refine wp_region_calm (w0:=w1) [[],[],[1],[],[],[],[3,4,5],[],[7],[6,8],[0,2,9],[]] [10,11] (by kernel_rfl) (by kernel_rfl) (Chg.refl [] w1).drew ?_
 (intro fr hfr;simp only[fillL,Act.put,List.setIfInBounds_toArray,List.set_cons_zero,List.set_cons_succ,Nat.reduceAdd] at hfr;obtain rfl:=funext (fun vals=>(hfr vals).symm);clear hfr;simp only[List.dropLast,List.zip_cons_cons,List.zip_nil_right])
 refine calm_read (c:=.agg #[.int .i64 4,.slice (some ⟨be,0,none⟩) 3 3]) rfl (fun vals w' hG hF=>⟨by rfl,by have q0:=hG.cell x0 (by simp);have q1:=hG.cell x1 (by simp);go_simp⟩) ?_
 refine calm_read (c:=.agg #[.int .i64 4,.slice (some ⟨be,0,none⟩) 3 3]) rfl (fun vals w' hG hF=>⟨by rfl,by have q0:=hG.cell x0 (by simp);have q1:=hG.cell x1 (by simp);go_simp⟩) ?_
 refine calm_op (fun v w=>∃ v1 v2,v=.agg #[v1,v2]∧RowAt w w1.heap.size v1 Plain.p1.v∧RowAt w w1.heap.size v2 Plain.p1.e) rfl (fun u w w' hc ⟨v1,v2,e,h1,h2⟩=>⟨v1,v2,e,h1.chg hc (by simp),h2.chg hc (by simp)⟩) (fun vals w' hG hF=>⟨by rfl,fun K hK=>wp_calls rfl enter_whole (args:=#[.agg #[.int .i64 4,.slice (some ⟨be,0,none⟩) 3 3]]) (congrArg (fun v=>[v]) hF.1) ((whole_any _ Plain.g1 4 _ rfl (by decide) (by decide) (HG.out.fresh hG)).mono fun e w4 ⟨v1,v2,he,r1,r2,hc⟩=>⟨_,he,hK.out _ _ ⟨v1,v2,rfl,r1.base hG.size,r2.base hG.size⟩ hc⟩)⟩) ?_
 refine calm_op (fun v w=>∃ b,v=.slice (some ⟨b,0,none⟩) 2 2∧w.heap[b]?=some (.cells #[.int .i64 0,.int .i64 5] 3)) rfl (fun u w w' hc ⟨b,e,h⟩=>⟨b,e,kept hc h⟩) (fun vals w' hG hF=>⟨by rfl,fun K hK=>by go_simp;exact hK.out _ _ ⟨_,rfl,heap_alloc_new _ _⟩ ((Chg.refl _ _).alloc _)⟩) ?_
 refine calm_op (fun v w=>∃ b,v=.slice (some ⟨b,0,none⟩) 2 2∧w.heap[b]?=some (.cells #[.int .i64 1,.int .i64 2] 3)) rfl (fun u w w' hc ⟨b,e,h⟩=>⟨b,e,kept hc h⟩) (fun vals w' hG hF=>⟨by rfl,fun K hK=>by go_simp;exact hK.out _ _ ⟨_,rfl,heap_alloc_new _ _⟩ ((Chg.refl _ _).alloc _)⟩) ?_
 refine calm_op (fun v w=>∃ b,v=.slice (some ⟨b,0,none⟩) 2 2∧w.heap[b]?=some (.cells #[.int .i64 3,.int .i64 4] 3)) rfl (fun u w w' hc ⟨b,e,h⟩=>⟨b,e,kept hc h⟩) (fun vals w' hG hF=>⟨by rfl,fun K hK=>by go_simp;exact hK.out _ _ ⟨_,rfl,heap_alloc_new _ _⟩ ((Chg.refl _ _).alloc _)⟩) ?_
 refine calm_op (fun v w=>∃ b b0 b1 b2,v=.slice (some ⟨b,0,none⟩) 4 4∧w.heap[b]?=some (.cells #[.slice (some ⟨b0,0,none⟩) 2 2,.slice (some ⟨b1,0,none⟩) 2 2,.slice (some ⟨b2,0,none⟩) 2 2,.slice none 0 0] 27)∧w.heap[b0]?=some (.cells #[.int .i64 0,.int .i64 5] 3)∧w.heap[b1]?=some (.cells #[.int .i64 1,.int .i64 2] 3)∧w.heap[b2]?=some (.cells #[.int .i64 3,.int .i64 4] 3)) rfl
  (fun u w w' hc ⟨b,b0,b1,b2,e,h,h0,h1,h2⟩=>⟨b,b0,b1,b2,e,kept hc h,kept hc h0,kept hc h1,kept hc h2⟩) (fun vals w' hG hF=>⟨by rfl,fun K hK=>by
   simp only[Facts,List.nil_append,List.cons_append,List.getD_cons_zero,List.getD_cons_succ,and_true] at hF
   obtain⟨⟨b0,e3,h3⟩,⟨b1,e4,h4⟩,⟨b2,e5,h5⟩⟩:=hF
   simp only[e3,e4,e5] at hK ⊢
   go_simp
   have hc:=(Chg.refl [] w').alloc (.cells #[.slice (some ⟨b0,0,none⟩) 2 2,.slice (some ⟨b1,0,none⟩) 2 2,.slice (some ⟨b2,0,none⟩) 2 2,.slice none 0 0] 27)
   exact hK.out _ _ ⟨_,b0,b1,b2,rfl,heap_alloc_new _ _,kept hc h3,kept hc h4,kept hc h5⟩ hc⟩) ?_
 refine calm_op (fun v w=>∃ b,v=.slice (some ⟨b,0,none⟩) 2 2∧w.heap[b]?=some (.cells #[.int .i64 (-4),.int .i64 0] 3)) rfl (fun u w w' hc ⟨b,e,h⟩=>⟨b,e,kept hc h⟩) (fun vals w' hG hF=>⟨by rfl,fun K hK=>by go_simp;exact hK.out _ _ ⟨_,rfl,heap_alloc_new _ _⟩ ((Chg.refl _ _).alloc _)⟩) ?_
 refine calm_op (fun v w=>∃ b b4,v=.slice (some ⟨b,0,none⟩) 1 1∧w.heap[b]?=some (.cells #[.slice (some ⟨b4,0,none⟩) 2 2] 27)∧w.heap[b4]?=some (.cells #[.int .i64 (-4),.int .i64 0] 3)) rfl
  (fun u w w' hc ⟨b,b4,e,h,h0⟩=>⟨b,b4,e,kept hc h,kept hc h0⟩) (fun vals w' hG hF=>⟨by rfl,fun K hK=>by
   simp only[Facts,List.nil_append,List.cons_append,List.getD_cons_zero,List.getD_cons_succ,and_true] at hF
   obtain⟨b4,e7,h7⟩:=hF
   simp only[e7] at hK ⊢
   go_simp
   have hc:=(Chg.refl [] w').alloc (.cells #[.slice (some ⟨b4,0,none⟩) 2 2] 27)
   exact hK.out _ _ ⟨_,b4,rfl,heap_alloc_new _ _,kept hc h7⟩ hc⟩) ?_
 refine calm_op (fun v w=>∃ b3 b5,v=.agg #[.slice (some ⟨b3,0,none⟩) 4 4,.slice (some ⟨b5,0,none⟩) 1 1]∧∃ b0 b1 b2 b4,w.heap[b3]?=some (.cells #[.slice (some ⟨b0,0,none⟩) 2 2,.slice (some ⟨b1,0,none⟩) 2 2,.slice (some ⟨b2,0,none⟩) 2 2,.slice none 0 0] 27)∧w.heap[b0]?=some (.cells #[.int .i64 0,.int .i64 5] 3)∧w.heap[b1]?=some (.cells #[.int .i64 1,.int .i64 2] 3)∧w.heap[b2]?=some (.cells #[.int .i64 3,.int .i64 4] 3)∧w.heap[b5]?=some (.cells #[.slice (some ⟨b4,0,none⟩) 2 2] 27)∧w.heap[b4]?=some (.cells #[.int .i64 (-4),.int .i64 0] 3)) rfl
  (fun u w w' hc ⟨b3,b5,e,b0,b1,b2,b4,h3,h0,h1,h2,h5,h4⟩=>⟨b3,b5,e,b0,b1,b2,b4,kept hc h3,kept hc h0,kept hc h1,kept hc h2,kept hc h5,kept hc h4⟩) (fun vals w' hG hF=>⟨by rfl,fun K hK=>by
   simp only[Facts,List.nil_append,List.cons_append,List.getD_cons_zero,List.getD_cons_succ,and_true] at hF
   obtain⟨⟨b3,b0,b1,b2,e6,h3,h0,h1,h2⟩,⟨b5,b4,e8,h5,h4⟩⟩:=hF
   simp only[e6,e8] at hK ⊢
   go_simp
   exact hK.out _ _ ⟨b3,b5,rfl,b0,b1,b2,b4,h3,h0,h1,h2,h5,h4⟩ (Chg.refl _ _)⟩) ?_
 refine calm_op (fun v w=>∃ a1 c1 a2 c2 b3 b5,v=.agg #[.int .i64 4,.slice (some ⟨be,0,none⟩) 3 3,.slice a1 Plain.p1.v.length c1,.slice a2 Plain.p1.e.length c2,.slice (some ⟨b3,0,none⟩) 4 4,.slice (some ⟨b5,0,none⟩) 1 1]∧RowAt w w1.heap.size (.slice a1 Plain.p1.v.length c1) Plain.p1.v∧RowAt w w1.heap.size (.slice a2 Plain.p1.e.length c2) Plain.p1.e∧∃ b0 b1 b2 b4,w.heap[b3]?=some (.cells #[.slice (some ⟨b0,0,none⟩) 2 2,.slice (some ⟨b1,0,none⟩) 2 2,.slice (some ⟨b2,0,none⟩) 2 2,.slice none 0 0] 27)∧w.heap[b0]?=some (.cells #[.int .i64 0,.int .i64 5] 3)∧w.heap[b1]?=some (.cells #[.int .i64 1,.int .i64 2] 3)∧w.heap[b2]?=some (.cells #[.int .i64 3,.int .i64 4] 3)∧w.heap[b5]?=some (.cells #[.slice (some ⟨b4,0,none⟩) 2 2] 27)∧w.heap[b4]?=some (.cells #[.int .i64 (-4),.int .i64 0] 3)) rfl
  (fun u w w' hc ⟨a1,c1,a2,c2,b3,b5,e,r1,r2,b0,b1,b2,b4,h3,h0,h1,h2,h5,h4⟩=>⟨a1,c1,a2,c2,b3,b5,e,r1.chg hc (by simp),r2.chg hc (by simp),b0,b1,b2,b4,kept hc h3,kept hc h0,kept hc h1,kept hc h2,kept hc h5,kept hc h4⟩) (fun vals w' hG hF=>⟨by rfl,fun K hK=>by
   simp only[Facts,List.nil_append,List.cons_append,List.getD_cons_zero,List.getD_cons_succ,and_true] at hF
   obtain⟨e0,⟨v1,v2,e2,r1,r2⟩,⟨b3,b5,e9,b0,b1,b2,b4,h3,h0,h1,h2,h5,h4⟩⟩:=hF
   obtain⟨a1,c1,rfl⟩:=r1.shape
   obtain⟨a2,c2,rfl⟩:=r2.shape
   simp only[e0,e2,e9] at hK ⊢
   go_simp
   exact hK.out _ _ ⟨a1,c1,a2,c2,b3,b5,rfl,r1,r2,b0,b1,b2,b4,h3,h0,h1,h2,h5,h4⟩ (Chg.refl _ _)⟩) ?_
 refine calm_op (fun v w=>∃ b,v=.pointer (some ⟨b,0,none⟩)∧w1.heap.size≤b∧w.heap[b]?=some (.cells #[.int .i64 0,.slice none 0 0,.slice none 0 0,.slice none 0 0,.slice none 0 0,.slice none 0 0] 34)) rfl
  (fun u w w' hc ⟨b,e,hb,h⟩=>⟨b,e,hb,kept hc h⟩) (fun vals w' hG hF=>⟨by rfl,fun K hK=>by go_simp;exact hK.out _ _ ⟨_,rfl,hG.size,heap_alloc_new _ _⟩ ((Chg.refl _ _).alloc _)⟩) ?_
 refine calm_last rfl (fun vals w2 hG hF=>⟨by rfl,fun K hK=>?_⟩)
 simp only[Facts,List.nil_append,List.cons_append,List.getD_cons_zero,List.getD_cons_succ,and_true] at hF
 obtain⟨⟨a1,c1,a2,c2,b3,b5,e10,r1,r2,b0,b1,b2,b4,h3,h0,h1,h2,h5,h4⟩,⟨cb,e11,hcb,hcr⟩⟩:=hF
 simp only[e10,e11] at hK ⊢
 have q0:=(cell_of_row _ _ 0 _ _ _ hcr).trans (show _=some (Value.int .i64 0) from rfl)
 have q1:=(cell_of_row _ _ 1 _ _ _ hcr).trans (show _=some (Value.slice none 0 0) from rfl)
 have q2:=(cell_of_row _ _ 2 _ _ _ hcr).trans (show _=some (Value.slice none 0 0) from rfl)
 have q3:=(cell_of_row _ _ 3 _ _ _ hcr).trans (show _=some (Value.slice none 0 0) from rfl)
 have q4:=(cell_of_row _ _ 4 _ _ _ hcr).trans (show _=some (Value.slice none 0 0) from rfl)
 have q5:=(cell_of_row _ _ 5 _ _ _ hcr).trans (show _=some (Value.slice none 0 0) from rfl)
 have f0:=free_at hcr 0
 have f1:=free_at hcr 1
 have f2:=free_at hcr 2
 have f3:=free_at hcr 3
 have f4:=free_at hcr 4
 have f5:=free_at hcr 5
 go_simp
 refine hK.out _ _ ?_
 clear hK K
 have hne:∀ {b:Nat} {cs:Array Value} {t:TypeId},w2.heap[b]?=some (.cells cs t)→t≠34→b ∉ [cb]:=fun h ht e=>by
  rw[List.mem_singleton.1 e,hcr] at h
  simp at h
  exact ht h.2.symm
 have hset:Chg [cb] w2 ((((((w2.setCell ⟨cb,0,none⟩ (.int .i64 4)).setCell ⟨cb,1,none⟩ (.slice (some ⟨be,0,none⟩) 3 3)).setCell ⟨cb,2,none⟩ (.slice a1 Plain.p1.v.length c1)).setCell ⟨cb,3,none⟩ (.slice a2 Plain.p1.e.length c2)).setCell ⟨cb,4,none⟩ (.slice (some ⟨b3,0,none⟩) 4 4)).setCell ⟨cb,5,none⟩ (.slice (some ⟨b5,0,none⟩) 1 1)) :=
  ((((((Chg.refl _ w2).setCell (Or.inl (by simp)) _).setCell (Or.inl (by simp)) _).setCell (Or.inl (by simp)) _).setCell (Or.inl (by simp)) _).setCell (Or.inl (by simp)) _).setCell (Or.inl (by simp)) _
 have hfin:=heap_setCell_same (heap_setCell_same (heap_setCell_same (heap_setCell_same (heap_setCell_same (heap_setCell_same hcr 0 (.int .i64 4)) 1 (.slice (some ⟨be,0,none⟩) 3 3)) 2 (.slice a1 Plain.p1.v.length c1)) 3 (.slice a2 Plain.p1.e.length c2)) 4 (.slice (some ⟨b3,0,none⟩) 4 4)) 5 (.slice (some ⟨b5,0,none⟩) 1 1)
 have hre:=kept hG HRE.out
 have hx:=(fun (h:w2.heap[be+1]?=some (.cells #[.int .i64 4,.slice (some ⟨be,0,none⟩) 3 3] 24))=>hset.heap h (hne h (by decide)))
 have hgr:=kept hG HGR.out
 have hgr3:=hx hgr
 have hpl:=pl_tri (I64.mk (by decide) (by decide):I64 0) (hset.heap h0 (hne h0 (by decide))) (hset.heap h1 (hne h1 (by decide))) (hset.heap h2 (hne h2 (by decide))) (hset.heap h3 (hne h3 (by decide))) (hset.heap h4 (hne h4 (by decide))) (hset.heap h5 (hne h5 (by decide)))
 have hg3:=gr_tri (hset.heap hre (hne hre (by decide)))
 have hrow:∀ {v:Value} {l:List Int},RowAt w2 w1.heap.size v l→MRow ((((((w2.setCell ⟨cb,0,none⟩ (.int .i64 4)).setCell ⟨cb,1,none⟩ (.slice (some ⟨be,0,none⟩) 3 3)).setCell ⟨cb,2,none⟩ (.slice a1 Plain.p1.v.length c1)).setCell ⟨cb,3,none⟩ (.slice a2 Plain.p1.e.length c2)).setCell ⟨cb,4,none⟩ (.slice (some ⟨b3,0,none⟩) 4 4)).setCell ⟨cb,5,none⟩ (.slice (some ⟨b5,0,none⟩) 1 1)) v l:=fun h=>by
  have h2:=h.chg hset (fun b hb e=>by
   obtain⟨cs,r,hh⟩:=row_kind h b (by rw[h.foot];exact hb)
   rw[List.mem_singleton.1 e,hcr] at hh
   simp at hh)
  exact⟨h2.ints,CapOk.row h2⟩
 have HCASE:=lh (show CaseAt _ (.agg #[.int .i64 4,.slice (some ⟨be,0,none⟩) 3 3,.slice a1 Plain.p1.v.length c1,.slice a2 Plain.p1.e.length c2,.slice (some ⟨b3,0,none⟩) 4 4,.slice (some ⟨b5,0,none⟩) 1 1]) Plain.g1 Plain.p1 Plain.t1 [[-4,0]] from⟨_,_,_,_,_,_,rfl,hg3,⟨_,_,rfl,hrow r1,hrow r2⟩,hpl⟩)
 have HG3:=lh hg3
 have k0:=(cell_of_row _ _ 0 _ _ _ hfin).trans (show _=some (Value.int .i64 4) from rfl)
 have k1:=(cell_of_row _ _ 1 _ _ _ hfin).trans (show _=some (Value.slice (some ⟨be,0,none⟩) 3 3) from rfl)
 have k2:=(cell_of_row _ _ 2 _ _ _ hfin).trans (show _=some (Value.slice a1 Plain.p1.v.length c1) from rfl)
 have k3:=(cell_of_row _ _ 3 _ _ _ hfin).trans (show _=some (Value.slice a2 Plain.p1.e.length c2) from rfl)
 have k4:=(cell_of_row _ _ 4 _ _ _ hfin).trans (show _=some (Value.slice (some ⟨b3,0,none⟩) 4 4) from rfl)
 have k5:=(cell_of_row _ _ 5 _ _ _ hfin).trans (show _=some (Value.slice (some ⟨b5,0,none⟩) 1 1) from rfl)
 have x0':=(cell_of_row _ _ 0 _ _ _ hgr3).trans (show _=some (Value.int .i64 4) from rfl)
 have x1':=(cell_of_row _ _ 1 _ _ _ hgr3).trans (show _=some (Value.slice (some ⟨be,0,none⟩) 3 3) from rfl)
 have HCW3:=lh ((HXC.out.trans hG (by simp)).trans hset (fun j hj=>Or.inr (by rw[List.mem_singleton.1 hj];exact Nat.le_trans HXC.out.size hcb)))
 have J0:∀ x:Int,-100≤x→x≤100→I64 x:=fun x a b=>I64.mk (by omega) (by omega)
 have HJ:=lh J0
 have RL17:=lh (show ∀ i,(Plain.t1.getD i []).length≤200 from fun i=>by rcases i with _ | _ | _ | _ | i <;> simp[Plain.t1])
 have SL17:=lh (show ∀ i,(([[-4,0]]:List (List Int)).getD i []).length≤10000 from fun i=>by rcases i with _ | i <;> simp)
 clear hne hset hfin hre hx hgr hgr3 hpl hg3 hrow q0 q1 q2 q3 q4 q5 f0 f1 f2 f3 f4 f5 r1 r2 h3 h0 h1 h2 h5 h4 hcr hcb hG e10 e11 J0 x0 x1
 generalize ((((((w2.setCell ⟨cb,0,none⟩ (.int .i64 4)).setCell ⟨cb,1,none⟩ (.slice (some ⟨be,0,none⟩) 3 3)).setCell ⟨cb,2,none⟩ (.slice a1 Plain.p1.v.length c1)).setCell ⟨cb,3,none⟩ (.slice a2 Plain.p1.e.length c2)).setCell ⟨cb,4,none⟩ (.slice (some ⟨b3,0,none⟩) 4 4)).setCell ⟨cb,5,none⟩ (.slice (some ⟨b5,0,none⟩) 1 1))=w3 at *
 go_wp2
 have hS0:Chg [] w3 w3.drew:=(Chg.refl [] w3).drew
 refine wp_region_way (Chg [] w3) [0,1,5,6,7,8] (Way.line [0,1,2,3,4,5,6,7,8,9] .done) (by kernel_rfl) (by kernel_rfl) ?_
 simp only[Way.line]
 generalize w3.drew=wd at *
 repeat
  first
   | (refine along_off rfl (by rfl) (by rfl) (fun _ _ _ h=>h) hS0 ?_;simp only[Act.put,Z1,Z2,Z3,Z4,Z5,Z6])
   | (refine along_read (v:=?_) rfl (by rfl) (by rfl) (fun _ _ _ h=>h) hS0 (fun w' hS'=>?_) ?_;rotate_left;(focus (have rd0:=hS'.cell k0 (by simp);have rd1:=hS'.cell k1 (by simp);have rd2:=hS'.cell k2 (by simp);have rd3:=hS'.cell k3 (by simp);have rd4:=hS'.cell k4 (by simp);have rd5:=hS'.cell k5 (by simp);have rd6:=hS'.cell x0' (by simp);have rd7:=hS'.cell x1' (by simp);clear hS';go_simp;try with_reducible rfl));simp only[Act.put,Z1,Z2,Z3,Z4,Z5,Z6])
   | (refine along_skip rfl (by rfl) (by rfl) hS0 ?_;simp only[Act.put,Z1,Z2,Z3,Z4,Z5,Z6])
 refine along_op rfl (by rfl) (by rfl) (fun K hK=>?_)
 go_simp
 have HI:=lh (lit_three wd (HJ.out 0 (by decide) (by decide)) (HJ.out 1 (by decide) (by decide)) (HJ.out 2 (by decide) (by decide)))
 have hS1:=hS0.alloc (.cells #[.int .i64 0,.int .i64 1,.int .i64 2] 3)
 refine hK.out _ _ (fun _=>hS1) ?_
 clear hK K hS0
 have hS0:=hS1
 clear hS1
 try simp only[Act.put,Z1,Z2,Z3,Z4,Z5,Z6]
 generalize (wd.alloc (.cells #[.int .i64 0,.int .i64 1,.int .i64 2] 3))=w4 at *
 generalize wd.heap.size=lb at *
 refine along_op rfl (by rfl) (by rfl) (fun K hK=>?_)
 go_simp
 refine (span_any _ _ Plain.g1 [0,1,2] _ (by decide) (by decide) (by decide) (HG3.out.fresh hS0) HI.out).mono ?_
 rintro e w5 ⟨sv,rfl,hsp,hcx⟩
 have hS1:=hS0.trans hcx (by simp)
 clear hS0 hcx
 have hS0:=hS1
 clear hS1
 refine hK.out _ _ (fun _=>hS0) ?_
 clear hK K
 try simp only[Act.put,Z1,Z2,Z3,Z4,Z5,Z6]
 rw[Plain.spanh] at hsp
 have HSP:=lh hsp
 obtain⟨s1,s2,s3,s4,rfl⟩:=hsp.shape
 clear hsp
 refine along_op rfl (by rfl) (by rfl) (fun K hK=>?_)
 go_simp
 refine (home_any _ _ Plain.g1 Plain.p1 Plain.ph Plain.t1 [[-4,0]] 3 _ (by decide) (by decide) (by decide) (by decide) (by decide) RL17.out (by decide) (by decide) SL17.out (HJ.out 3 (by decide) (by decide)) (HCASE.out.fresh hS0) HSP.out).mono ?_
 rintro e w6 ⟨rfl,hcx⟩
 have hS1:=hS0.trans hcx (by simp)
 clear hS0 hcx
 have hS0:=hS1
 clear hS1
 refine hK.out _ _ (fun _=>hS0) ?_
 clear hK K
 try simp only[Act.put,Z1,Z2,Z3,Z4,Z5,Z6]
 rw[Plain.home17,show optN (some 0)=0 from rfl,show (some 0:Option Nat).isSome=true from rfl]
 repeat
  first
   | (refine along_off rfl (by rfl) (by rfl) (fun _ _ _ h=>h) hS0 ?_;simp only[Act.put,Z1,Z2,Z3,Z4,Z5,Z6])
   | (refine along_read (v:=?_) rfl (by rfl) (by rfl) (fun _ _ _ h=>h) hS0 (fun w' hS'=>?_) ?_;rotate_left;(focus (skip;clear hS';go_simp;try with_reducible rfl));simp only[Act.put,Z1,Z2,Z3,Z4,Z5,Z6])
   | (refine along_skip rfl (by rfl) (by rfl) hS0 ?_;simp only[Act.put,Z1,Z2,Z3,Z4,Z5,Z6])
 refine along_op rfl (by rfl) (by rfl) (fun K hK=>?_)
 go_simp
 refine hK.out _ _ (fun h=>absurd h (Bool.eq_false_iff.1 (by kernel_rfl))) ?_
 clear hK K
 try simp only[Act.put,Z1,Z2,Z3,Z4,Z5,Z6]
 refine along_done ?_
 have HC6:=lh (HCW3.out.trans hS0 (by simp))
 have g0:=hS0.cell k0 (by simp)
 have g1:=hS0.cell k1 (by simp)
 have g2:=hS0.cell k2 (by simp)
 have g3:=hS0.cell k3 (by simp)
 have g4:=hS0.cell k4 (by simp)
 have g5:=hS0.cell k5 (by simp)
 have HCS6:=lh (HCASE.out.fresh hS0)
 clear k0 k1 k2 k3 k4 k5 x0' x1' hS0
 go_wp2_with fail
 refine (holdRight_any _ Plain.g1 Plain.p1 Plain.t1 [[-4,0]] _ (by decide) (by decide) (by decide) (by decide) (by decide) SL17.out HCS6.out).mono ?_
 rintro e w7 ⟨rfl,hc7⟩
 have HC7:=lh (HC6.out.trans hc7 (by simp))
 rw[Plain.plan1w (Or.inl rfl)]
 clear g0 g1 g2 g3 g4 g5 hc7
 go_wp2
 go_ret
 exact⟨rfl,HC7.out⟩
set_option maxRecDepth 100000 in
set_option maxHeartbeats 2000000 in
theorem small17_any (vc:Value) (g:Plain.Gr) (p:Plain.Pt) (turn same:List (List Int)) (w:World) (hc:CaseAt w vc g p turn same) :
  Calls Tryz.prog 16 #[vc] w fun e w'=>e=.returned (.int .i64 (bit (Plain.small8 g p turn same)))∧Chg [] w w':=by
 obtain⟨eo,cap,ao,ac,bo,bc,tno,tc,so,sc,rfl,hg,hp,hx⟩:=hc.shape
 have HG:=lh hg
 have HP:=lh hp.at
 have HX:=lh hx
 have HC1:=lh ((Chg.refl [] w).alloc (.cells #[.int .i64 g.n,.slice eo g.e.length cap,.slice ao p.v.length ac,.slice bo p.e.length bc,.slice tno turn.length tc,.slice so same.length sc] 34))
 obtain⟨k0,k1,k2,k3,k4,k5,hsz⟩:=case_cells (Chg.refl [] (w.alloc (.cells #[.int .i64 g.n,.slice eo g.e.length cap,.slice ao p.v.length ac,.slice bo p.e.length bc,.slice tno turn.length tc,.slice so same.length sc] 34)))
 clear hc hg hp hx
 go_enter Tryz.func16,Tryz.ntmps16
 go_wp2_with fail
 generalize (w.alloc (.cells #[.int .i64 g.n,.slice eo g.e.length cap,.slice ao p.v.length ac,.slice bo p.e.length bc,.slice tno turn.length tc,.slice so same.length sc] 34))=w1 at *
 refine (small8_any _ _ _ g p turn same _ (HG.out.fresh HC1.out) (HP.out.fresh HC1.out) (HX.out.fresh HC1.out)).mono ?_
 rintro e w2 ⟨rfl,hc2⟩
 have HC2:=lh (HC1.out.trans hc2 (by simp))
 clear k0 k1 k2 k3 k4 k5 hsz hc2
 go_wp2
 go_ret
 exact⟨rfl,HC2.out⟩
end Go.Proofs.YtkacjmoamgjfpaaGreat
namespace Go.Proofs.YtkacjmoamgjfpaaGreat
open Go.ChangeShapes Go.WideShapes Go.ChangeAt Go.RowKit Go.Deep Go.Joins
section
variable {H : Type} {enc : TypeId × Value → H} {w : World} {base : Nat} {held : Bool}
theorem cellsEdges:Tryz.prog.cellsOf 22=1:=by kernel_rfl
theorem cellsRows:Tryz.prog.cellsOf 30=1:=by kernel_rfl
theorem cellsGr:Tryz.prog.cellsOf 24=2:=by kernel_rfl
theorem cellsPt:Tryz.prog.cellsOf 29=2:=by kernel_rfl
theorem cellsPl:Tryz.prog.cellsOf 32=2:=by kernel_rfl
theorem cellsCase:Tryz.prog.cellsOf 34=6:=by kernel_rfl
theorem array6 {α:Type} {cs:Array α} (h:cs.size=6):∃ a b c d e f,cs=#[a,b,c,d,e,f]:=by
 obtain⟨l⟩:=cs
 match l,h with
 | [a,b,c,d,e,f],_=>exact⟨a,b,c,d,e,f,rfl⟩
set_option maxRecDepth 100000 in
theorem gr_cells {fuel:Nat} {c0 c1:Value} {x:DataW H × List MemPlace} (h:DataW.trod enc Tryz.prog w base (fun _=>true) held fuel 24 [c0,c1]=some x):∃ g,GrAt w (.agg #[c0,c1]) g:=by
 obtain⟨y0,y1,n,_,_,h0,h1⟩:=trod_struct2 Tryz.underlying24 h
 simp only[cellsInt,cellsEdges,List.drop_zero,List.drop_succ_cons,List.take_succ_cons,List.take_zero] at h0 h1
 obtain⟨N,e0,_,w0⟩:=DataW.trod_int Tryz.underlying3 h0
 simp at e0
 subst e0
 rcases open_slice Tryz.underlying22 h1 with ⟨hcs,_⟩ | ⟨a,len',cap',m,n',D,Pl,hcs,_,hl,hm,hmm,_,hx⟩
 ·simp at hcs
  subst hcs
  exact⟨⟨N,[]⟩,none,0,rfl,w0,Nat.zero_le _,fun i hi=>absurd hi (by simp),fun i hi=>absurd hi (by simp)⟩
 simp at hcs
 subst hcs
 simp only[if_true] at hmm
 subst hmm
 have each:∀ i,i<m→∃ y:Int × Int,(I64 y.1∧I64 y.2)∧w.cell? (a.add (i*2))=some (.int .i64 y.1)∧w.cell? (a.add (i*2+1))=some (.int .i64 y.2):=by
  intro i hi
  obtain⟨cs',hc,ht⟩:=hx i hi
  rw[cellsEdge] at hc
  obtain⟨_,hlen,hat⟩:=World.cells?_some hc
  obtain⟨y0,y1,n',_,_,k0,k1⟩:=trod_struct2 Tryz.underlying82 ht
  match cs',hlen with
  | [c0,c1],_ =>
   simp only[cellsInt,List.drop_zero,List.drop_succ_cons,List.take_succ_cons,List.take_zero] at k0 k1
   obtain⟨x0,e0,_,q0⟩:=DataW.trod_int Tryz.underlying3 k0
   obtain⟨x1,e1,_,q1⟩:=DataW.trod_int Tryz.underlying3 k1
   simp at e0 e1
   subst e0 e1
   refine⟨(x0,x1),⟨q0,q1⟩,?_,?_⟩
   ·have:=hat 0 (by omega);rw[add_add] at this;simpa using this
   have:=hat 1 (by omega);rw[add_add] at this;simpa using this
 obtain⟨f,hf⟩:=choose_lt each
 unfold maxLen at hm
 have hg:∀ i,i<len'→((List.range len').map f).getD i (0,0)=f i:=fun i hi=>by simp[List.getD,hi]
 refine⟨⟨N,(List.range len').map f⟩,some a,m,by simp,w0,by simp;omega,fun i hi=>?_,fun i hi=>?_⟩
 ·have hi:i<len':=by simpa using hi
  show I64 (((List.range len').map f).getD i (0,0)).1∧I64 (((List.range len').map f).getD i (0,0)).2
  rw[hg i hi]
  exact (hf i (by omega)).1
 have hi:i<len':=by simpa using hi
 obtain⟨_,k0,k1⟩:=hf i (by omega)
 obtain⟨b,off,spot⟩:=a
 have hs:spot=none:=by
  have:=World.cell?_spot (hf 0 (by omega)).2.1
  simpa[Addr.add] using this
 subst hs
 refine⟨b,off,rfl,?_,?_⟩
 ·show _=some (Value.int .i64 (((List.range len').map f).getD i (0,0)).1)
  rw[hg i hi,←add_plain];exact k0
 show _=some (Value.int .i64 (((List.range len').map f).getD i (0,0)).2)
 rw[hg i hi,Nat.add_assoc,←add_plain];exact k1
set_option maxRecDepth 100000 in
theorem pt_cells {fuel:Nat} {c0 c1:Value} {x:DataW H × List MemPlace} (h:DataW.trod enc Tryz.prog w base (fun _=>true) held fuel 29 [c0,c1]=some x):∃ g,PtC w (.agg #[c0,c1]) g:=by
 obtain⟨y0,y1,n,_,_,h0,h1⟩:=trod_struct2 Tryz.underlying29 h
 simp only[cellsRow,List.drop_zero,List.drop_succ_cons,List.take_succ_cons,List.take_zero] at h0 h1
 obtain⟨l0,k0,q0⟩:=ints_open h0
 obtain⟨l1,k1,q1⟩:=ints_open h1
 exact⟨⟨l0,l1⟩,c0,c1,rfl,⟨k0,q0⟩,⟨k1,q1⟩⟩
set_option maxRecDepth 100000 in
theorem pl_cells {fuel:Nat} {c0 c1:Value} {x:DataW H × List MemPlace} (h:DataW.trod enc Tryz.prog w base (fun _=>true) held fuel 32 [c0,c1]=some x):∃ turn same,PlAt w (.agg #[c0,c1]) turn same:=by
 obtain⟨y0,y1,n,_,_,h0,h1⟩:=trod_struct2 Tryz.underlying32 h
 simp only[cellsRows,List.drop_zero,List.drop_succ_cons,List.take_succ_cons,List.take_zero] at h0 h1
 obtain⟨l0,k0⟩:=rows_open h0
 obtain⟨l1,k1⟩:=rows_open h1
 exact⟨l0,l1,c0,c1,rfl,k0,k1⟩
set_option maxRecDepth 100000 in
theorem ptc_open {r:Reach} {b0:Nat} {v:Value} {d:DataW H} {p:List MemPlace} (hv:Value.okWide Tryz.prog w r b0 29 v) (h:DataW.Trod enc Tryz.prog w base (fun _=>true) held 29 v d p):∃ g,PtC w v g:=by
 obtain⟨c0,c1,y0,y1,n,rfl,-,-,h0,h1⟩:=open_agg2 Tryz.underlying29 (by kernel_rfl) (by kernel_rfl) hv h
 obtain⟨l0,k0,q0⟩:=ints_open h0
 obtain⟨l1,k1,q1⟩:=ints_open h1
 exact⟨⟨l0,l1⟩,c0,c1,rfl,⟨k0,q0⟩,⟨k1,q1⟩⟩
set_option maxRecDepth 100000 in
theorem case_open {r:Reach} {b0:Nat} {v:Value} {d:DataW H} {p:List MemPlace} (hv:Value.okWide Tryz.prog w r b0 34 v) (h:DataW.Trod enc Tryz.prog w base (fun _=>true) held 34 v d p):∃ g q turn same,CaseAt w v g q turn same:=by
 obtain⟨cs,rfl,hsz⟩:=okWide_struct Tryz.underlying34 hv
 obtain⟨c0,c1,c2,c3,c4,c5,rfl⟩:=array6 (hsz.trans cellsCase)
 obtain⟨fuel,hf⟩:=h
 obtain⟨y0,y1,y2,n,_,_,h0,h1,h2⟩:=trod_struct3 Tryz.underlying34 hf
 simp only[Value.cells,cellsGr,cellsPt,cellsPl,List.drop_zero,List.drop_succ_cons,List.take_succ_cons,List.take_zero] at h0 h1 h2
 obtain⟨g,hg⟩:=gr_cells h0
 obtain⟨q,hq⟩:=pt_cells h1
 obtain⟨t,s,hx⟩:=pl_cells h2
 exact⟨g,q,t,s,c0,c1,c2,c3,c4,c5,rfl,hg,hq,hx⟩
end
end Go.Proofs.YtkacjmoamgjfpaaGreat
