/- draw.put: contract. Conditions: a sketch of the call's own that keeps to what sketches keep to; a scrap of it that fits in a face. -/
import Derived.Test.YtbkjljffnkdcjaaS9Single
namespace Go.Proofs.Ytbkjljffnkdcjaa
open Go.RowKit Go.Maps
theorem ints_drop {w:World} {B g n c k:Nat} {l:List Int} (h:RowAt w B (.slice (some ⟨g,0,none⟩) n c) l) (hk:k≤l.length):IntsAt w (.slice (some ⟨g,k,none⟩) (n - k) (c - k)) (l.drop k):=by
 obtain⟨rfl,-⟩:=row_cap h
 have hm:=h.2.2
 refine⟨_,c - k,by rw[List.length_drop],fun x hx=>h.2.1 x (List.mem_of_mem_drop hx),by rw[List.length_drop];omega,fun hne=>⟨g,k,rfl,fun i hi=>?_⟩⟩
 rw[List.length_drop] at hi
 obtain⟨g',e,hc⟩:=h.some (by omega)
 simp only[Option.some.injEq,Addr.mk.injEq,and_true] at e
 subst e
 rw[hc (k+i) (by omega)]
 simp[List.getD,List.getElem?_drop]
theorem ints_take {w:World} {B g n c k:Nat} {l:List Int} (h:RowAt w B (.slice (some ⟨g,0,none⟩) n c) l) (hk:k≤l.length):IntsAt w (.slice (some ⟨g,0,none⟩) k c) (l.take k):=by
 obtain⟨rfl,-⟩:=row_cap h
 have hm:=h.2.2
 have hl:(l.take k).length=k:=by rw[List.length_take];omega
 refine⟨_,c,by rw[hl],fun x hx=>h.2.1 x (List.mem_of_mem_take hx),by rw[hl];omega,fun hne=>⟨g,0,rfl,fun i hi=>?_⟩⟩
 rw[hl] at hi
 obtain⟨g',e,hc⟩:=h.some (by omega)
 simp only[Option.some.injEq,Addr.mk.injEq,and_true] at e
 subst e
 rw[Nat.zero_add,hc i (by omega)]
 simp[List.getD,hi]
theorem concat2_any (u v:Value) (l m:List Int) (w:World) (h1:IntsAt w u l) (h2:IntsAt w v m) (hl:l.length+m.length<1000000) :
  Calls Try.prog 28 #[.slice (some ⟨w.heap.size,0,none⟩) 2 2] (w.alloc (.cells #[u,v] 25)) fun e w'=>∃ v',e=.returned v'∧RowAt w' w.heap.size v' (l++m)∧Chg [] w w':=by
 have hc:=(Chg.refl [] w).alloc (.cells #[u,v] 25)
 have hb:=heap_alloc_new w (.cells #[u,v] 25)
 refine (concat_any w.heap.size 2 2 (fun k=>if k=0 then u else v) [l,m] _ rfl (by omega) (by simp;omega) (fun k hk=>by
  rcases (show k=0∨k=1 by omega) with rfl | rfl
  ·exact⟨(cell_of_row _ _ 0 _ _ _ hb).trans rfl,h1.fresh hc⟩
  exact⟨(cell_of_row _ _ 1 _ _ _ hb).trans rfl,h2.fresh hc⟩)).mono ?_
 rintro e w' ⟨v',rfl,hr,hc'⟩
 exact⟨v',rfl,by simpa using hr.base hc.size,hc.trans hc' (by simp)⟩
namespace Plain
theorem onTo_zero (g:Gr) (on:Int→Bool) (w:List Int) (v:Int):on v=onTo g on (w.take 0) v:=by simp[onTo]
theorem onTo_take {g:Gr} {on:Int→Bool} {w:List Int} {k:Nat} (hk:k<w.length) (v:Int):onTo g on (w.take (k+1)) v=if v=g.tail (w.getD k 0) then true else onTo g on (w.take k) v:=by
 have e:w.take (k+1)=w.take k++[w.getD k 0]:=by
  rw[List.take_add_one]
  simp[List.getD,hk]
 unfold onTo
 rw[e,List.any_append]
 by_cases q:v=g.tail (w.getD k 0)
 ·rw[if_pos q]
  simp[q]
 rw[if_neg q]
 have:decide (g.tail (w.getD k 0)=v)=false:=decide_eq_false fun r=>q r.symm
 simp only[List.any_cons,List.any_nil,this,Bool.or_false]
theorem scraps_le {g:Gr} {on:Int→Bool} {F:List (List Int)} {E ks:List Int} (hE:E.Nodup):(scraps g on F E ks).length≤E.length:=by
 have h:=(scraps_edges (g:=g) (on:=on) (F:=F) (ks:=ks) hE).length_eq
 rw[←h]
 refine flatMap_ge (f:=fun c:Scrap=>c.edges) fun c hc=>?_
 obtain⟨l,hl,rfl⟩:=List.mem_map.1 hc
 exact (groups_mem (scJoin_ok g on E).ok hl).1
theorem last_getD {w:List Int} (h:w≠[]):w.getD (w.length - 1) 0=w.getLastD 0∧w.getLastD 0∈w:=by
 rcases List.eq_nil_or_concat w with r | ⟨m,e,r⟩
 ·exact absurd r h
 rw[List.concat_eq_append] at r
 subst r
 rw[List.getLastD_eq_getLast?]
 simp[List.getD]
end Plain
set_option maxRecDepth 100000 in
set_option maxHeartbeats 8000000 in
theorem skput_any (w0 w:World) (sb ob N i:Nat) (vE fv rv:Value) (xs ys:List Value) (g:Plain.Gr) (b:Plain.Pt) (s:Plain.Sk) (p:Plain.Pt) (turn:List (List Int)) (hO:SkOwn w0 w sb ob N g vE fv rv xs ys s) (hb:b.err g=0) (hok:Plain.SkOk g b s p turn) (hi:i<s.rest.length) (hf:(s.rest.getD i ⟨[],[],[]⟩).faces≠[]) :
  Calls Try.prog 16 #[.pointer (some ⟨sb,0,none⟩),.int .i64 i] w fun e w'=>e=.returned (.tuple #[])∧∃ fv' rv' xs' ys',SkOwn w0 w' sb ob N g vE fv' rv' xs' ys' (s.put g b.v i):=by
 obtain⟨a,z,f,wy,old,hP⟩:=Plain.put_facts hb hO.base.n hok hi hf
 have HPUT:=lh (fun k j o h1 h2 h3=>Plain.put_is (k:=k) (j:=j) (o:=o) hP h1 h2 h3)
 have HP:=lh hP
 have HB:=lh hO.base
 have HFA:=lh hO.faces
 have HFAR:=lh hO.far
 have HSM:=lh hO.base.gri.small
 have q4:=hO.base.q4
 have hrl:s.rest.length≤1024:=hP.rl
 obtain⟨rb,rc,hrv⟩:=hO.rest.some (by omega)
 subst hrv
 have HRE:=lh hO.rest
 have hcl:=hO.rest.cells
 obtain⟨t0,t1,t2⟩:=scr3_at hi
 have c0:=hO.rest.cell (k:=3*i) (by omega)
 have c1:=hO.rest.cell (k:=3*i+1) (by omega)
 have c2:=hO.rest.cell (k:=3*i+2) (by omega)
 have r0:=hO.rest.row t0
 have r1:=hO.rest.row t1
 have r2:=hO.rest.row t2
 obtain⟨v0,e0⟩:∃ v,ys.getD (3*i) undef=v:=⟨_,rfl⟩
 obtain⟨v1,e1⟩:∃ v,ys.getD (3*i+1) undef=v:=⟨_,rfl⟩
 obtain⟨v2,e2⟩:∃ v,ys.getD (3*i+2) undef=v:=⟨_,rfl⟩
 have HE0:=lh e0
 rw[Nat.mul_comm 3 i] at c0 c1 c2
 rw[Nat.mul_comm 3 i] at e0 e1 e2 r0 r1 r2
 rw[e0] at c0 r0
 rw[e1] at c1 r1
 rw[e2] at c2 r2
 obtain⟨c,hc⟩:∃ c,s.rest.getD i ⟨[],[],[]⟩=c:=⟨_,rfl⟩
 have HC:=lh hc
 rw[hc] at HP HPUT r0 r1 r2 hP
 obtain⟨o0,p0,rfl⟩:=r0.shape
 obtain⟨o1,p1,rfl⟩:=r1.shape
 obtain⟨o2,p2,rfl⟩:=r2.shape
 have HR0:=lh r0
 have HR1:=lh r1
 have HR2:=lh r2
 have hii:(i:Int)<(s.rest.length:Int):=by omega
 have wi:IntKind.i64.wrap ((i:Int)+1)=(i:Int)+1:=IntWalk.i64_in _ (by omega)
 -- the blocks that may turn
 obtain⟨own,HOWN⟩:∃ own:List Nat,Hid ((∀ j∈own,w0.heap.size≤j∧j<w.heap.size)∧sb∈own∧ob∈own∧(∀ b,fv.ownBlock=some b→b∈own)∧rb∈own∧∀ l b,l<ys.length→(ys.getD l undef).ownBlock=some b→b∈own):=by
  refine⟨sb :: ob :: rb :: (fv.ownBlock.toList++(List.range ys.length).flatMap fun l=>(ys.getD l undef).ownBlock.toList),lh ⟨fun j hj=>?_,by simp,by simp,fun b hb=>by have hb':=hb;simp only[List.mem_cons,List.mem_append];exact Or.inr (Or.inr (Or.inr (Or.inl (by rw[hb'];simp)))),by simp,fun l b hl hb=>?_⟩⟩
  ·simp only[List.mem_cons,List.mem_append,List.mem_flatMap,List.mem_range] at hj
   rcases hj with r | r | r | r | ⟨l,hl,r⟩
   ·rw[r];exact⟨hO.base.low,hO.base.kind.lt⟩
   ·rw[r];exact hO.base.on.lt
   ·rw[r];exact hO.rest.out.lt rb rfl
   ·exact hO.faces.out.lt j (by simpa using r)
   have:=hO.rest.kind hl (show _=some j by simpa using r)
   exact⟨this.1,this.2.1⟩
  simp only[List.mem_cons,List.mem_append,List.mem_flatMap,List.mem_range]
  exact Or.inr (Or.inr (Or.inr (Or.inr ⟨l,hl,by rw[hb];simp⟩)))
 obtain⟨ys1,hys1⟩:∃ ys1,ys.take (3*i)++ys.drop (3*i+3)=ys1:=⟨_,rfl⟩
 have hy1:∀ l,l<ys1.length→∃ l',l'<ys.length∧l'≠3*i∧ys1.getD l undef=ys.getD l' undef:=fun l hl=>by
  rw[←hys1,List.length_append,List.length_take,List.length_drop] at hl
  rw[←hys1,getD_cut (by omega)]
  by_cases q:l<3*i
  ·exact⟨l,by omega,by omega,by rw[if_pos q]⟩
  exact⟨l - 3*i+(3*i+3),by omega,by omega,by rw[if_neg q]⟩
 have HOY1:=lh (show ∀ l b,l<ys1.length→(ys1.getD l undef).ownBlock=some b→b∈own from fun l b hl hb=>by
  obtain⟨l',h1,-,h3⟩:=hy1 l hl
  rw[h3] at hb
  exact HOWN.out.2.2.2.2.2 l' b h1 hb)
 have HFAR1:=lh (show FarAt ob xs ys1 from⟨HFAR.out.o,fun k l b hk hl hb hc=>by
  obtain⟨l',h1,-,h3⟩:=hy1 l hl
  rw[h3] at hc
  exact HFAR.out.y k l' b hk h1 hb hc⟩)
 have HAP0:=lh (show ∀ l b,l<ys1.length→(ys1.getD l undef).ownBlock=some b→(Value.slice o0 c.edges.length p0).ownBlock≠some b from fun l b hl hb hc=>by
  obtain⟨l',h1,h2,h3⟩:=hy1 l hl
  rw[h3] at hb
  rcases HRE.out.apart l' (3*i) h1 (by omega) h2 with r | r
  ·rw[r] at hb;cases hb
  rw[HE0.out] at r
  exact r (hb.trans hc.symm))
 have hrbl:=HRE.out.out.lt rb rfl
 have hsbl:=HB.out.kind.lt
 have hrs:rb≠sb:=(own_kind HRE.out.out rfl).ne HB.out.kind (by decide)
 clear hO hok hf e1 e2 t0 t1 t2 hc r0 r1 r2
 have HXC:=lh (show Chg [] w ((w.alloc (.cells #[.pointer (some ⟨sb,0,none⟩)] 44)).alloc (.cells #[.slice o0 c.edges.length p0,.slice o1 c.ends.length p1,.slice o2 c.faces.length p2] 74)) from (show Chg [] w ((w.alloc (.cells #[.pointer (some ⟨sb,0,none⟩)] 44)).alloc (.cells #[.slice o0 c.edges.length p0,.slice o1 c.ends.length p1,.slice o2 c.faces.length p2] 74)) from (((Chg.refl [] w).alloc _).alloc _)))
 have qbx0:=heap_alloc_new w (.cells #[.pointer (some ⟨sb,0,none⟩)] 44)
 replace qbx0:=(show Chg [] (w.alloc (.cells #[.pointer (some ⟨sb,0,none⟩)] 44)) ((w.alloc (.cells #[.pointer (some ⟨sb,0,none⟩)] 44)).alloc (.cells #[.slice o0 c.edges.length p0,.slice o1 c.ends.length p1,.slice o2 c.faces.length p2] 74)) from ((Chg.refl [] (w.alloc (.cells #[.pointer (some ⟨sb,0,none⟩)] 44))).alloc _)).heap qbx0 (by simp)
 have qbx1:=heap_alloc_new (w.alloc (.cells #[.pointer (some ⟨sb,0,none⟩)] 44)) (.cells #[.slice o0 c.edges.length p0,.slice o1 c.ends.length p1,.slice o2 c.faces.length p2] 74)
 rw[show (w.alloc (.cells #[.pointer (some ⟨sb,0,none⟩)] 44)).heap.size=w.heap.size+1 by simp] at qbx1
 have HX:=lh (fun (w2:World) (hbx:Chg [] ((w.alloc (.cells #[.pointer (some ⟨sb,0,none⟩)] 44)).alloc (.cells #[.slice o0 c.edges.length p0,.slice o1 c.ends.length p1,.slice o2 c.faces.length p2] 74)) w2)=>(⟨hbx.heap qbx0 (by simp),hbx.heap qbx1 (by simp),by have hz:=hbx.size;simpa using hz⟩:w2.heap[w.heap.size]?=some (.cells #[.pointer (some ⟨sb,0,none⟩)] 44 (0,0))∧w2.heap[w.heap.size+1]?=some (.cells #[.slice o0 c.edges.length p0,.slice o1 c.ends.length p1,.slice o2 c.faces.length p2] 74 (0,0))∧w.heap.size+2≤w2.heap.size))
 clear qbx0 qbx1
 have HXZ:=lh (show ((w.alloc (.cells #[.pointer (some ⟨sb,0,none⟩)] 44)).alloc (.cells #[.slice o0 c.edges.length p0,.slice o1 c.ends.length p1,.slice o2 c.faces.length p2] 74)).heap.size=w.heap.size+2 by simp)
 have hbs:=HX.out _ (Chg.refl _ _)
 have HBX:=lh (fun wr (h:Chg own _ wr)=>(show wr.cell? ⟨w.heap.size,0,none⟩=some (.pointer (some ⟨sb,0,none⟩))∧wr.cell? ⟨w.heap.size+1,0,none⟩=some (.slice o0 c.edges.length p0)∧wr.cell? ⟨w.heap.size+1,1,none⟩=some (.slice o1 c.ends.length p1)∧wr.cell? ⟨w.heap.size+1,2,none⟩=some (.slice o2 c.faces.length p2) from by
  have n1:w.heap.size ∉ own:=fun q=>by have:=HOWN.out.1 _ q;omega
  have n2:w.heap.size+1 ∉ own:=fun q=>by have:=HOWN.out.1 _ q;omega
  have h1:=h.heap hbs.1 n1
  have h2:=h.heap hbs.2.1 n2
  exact⟨(cell_of_row _ _ 0 _ _ _ h1).trans rfl,(cell_of_row _ _ 0 _ _ _ h2).trans rfl,(cell_of_row _ _ 1 _ _ _ h2).trans rfl,(cell_of_row _ _ 2 _ _ _ h2).trans rfl⟩))
 obtain⟨x0,-⟩:=HBX.out _ (Chg.refl _ _)
 have q4':=(show Chg [] w (w.alloc (.cells #[.pointer (some ⟨sb,0,none⟩)] 44)) from (Chg.refl _ _).alloc _).cell q4 (by simp)
 replace c0:=(show Chg [] w (w.alloc (.cells #[.pointer (some ⟨sb,0,none⟩)] 44)) from (Chg.refl _ _).alloc _).cell c0 (by simp)
 replace c1:=(show Chg [] w (w.alloc (.cells #[.pointer (some ⟨sb,0,none⟩)] 44)) from (Chg.refl _ _).alloc _).cell c1 (by simp)
 replace c2:=(show Chg [] w (w.alloc (.cells #[.pointer (some ⟨sb,0,none⟩)] 44)) from (Chg.refl _ _).alloc _).cell c2 (by simp)
 go_enter Try.func16,Try.ntmps16
 clear hbs
 go_wp2_with fail
 clear q4' c0 c1 c2
 replace q4:=HXC.out.cell q4 (by simp)
 generalize ((w.alloc (.cells #[.pointer (some ⟨sb,0,none⟩)] 44)).alloc (.cells #[.slice o0 c.edges.length p0,.slice o1 c.ends.length p1,.slice o2 c.faces.length p2] 74))=w1 at *
 obtain⟨pb,hpb⟩:∃ pb,w.heap.size=pb:=⟨_,rfl⟩
 have HPB:=lh hpb
 rw[hpb] at HBX x0 hrbl hsbl ⊢
 have hpw1:=HXC.out.size
 rw[hpb] at hpw1
 clear hpb
 have hpr:pb≠rb:=by omega
 have hps:pb≠sb:=by omega
 have hpr':pb ∉ [rb]:=by simpa using hpr
 have hsr':sb ∉ [rb]:=by simpa using fun e:sb=rb=>hrs e.symm
 have HPT:=lh (show Chg own w1 w1 from Chg.refl _ _)
 have hS0:Chg [rb] w1 w1.drew:=(Chg.refl [rb] w1).drew
 refine wp_region_way (Chg [rb] w1) [0,1,2,3,4,5,6,7,9,10] (Way.line [0,1,2,3,4,5,6,7,8,9,10,11] .done) (by kernel_rfl) (by kernel_rfl) ?_
 simp only[Way.line]
 repeat
  first
   | (refine along_off rfl (by rfl) (by rfl) (fun _ _ _ h=>h) hS0 ?_;simp only[Act.put,Z1,Z2,Z3,Z4,Z5,Z6])
   | (refine along_read (v:=?_) rfl (by rfl) (by rfl) (fun _ _ _ h=>h) hS0 (fun w' hS'=>?_) ?_;rotate_left;(focus (have rd0:=hS'.cell x0 (by first | exact hpr' | exact hsr');have rd1:=hS'.cell q4 (by first | exact hpr' | exact hsr');clear hS';go_simp;try with_reducible rfl));simp only[Act.put,Z1,Z2,Z3,Z4,Z5,Z6])
   | (refine along_skip rfl (by rfl) (by rfl) hS0 ?_;simp only[Act.put,Z1,Z2,Z3,Z4,Z5,Z6])
 refine along_op rfl (by rfl) (by rfl) (fun K hK=>?_)
 go_simp
 refine (delS_any rb rc i w0.heap.size s.rest ys _ ((HRE.out.fresh HXC.out).fresh ((Chg.refl [] w1).drew)) hi (by omega)).mono ?_
 rw[hys1]
 rintro e w2 ⟨rfl,hn2,hc2⟩
 have hS1:Chg [rb] w1 w2:=hS0.trans hc2 (fun j hj=>Or.inl hj)
 refine hK.out _ _ (fun _=>hS1) ?_
 clear hK K hS0
 try simp only[Act.put,Z1,Z2,Z3,Z4,Z5,Z6]
 repeat
  first
   | (refine along_off rfl (by rfl) (by rfl) (fun _ _ _ h=>h) hS1 ?_;simp only[Act.put,Z1,Z2,Z3,Z4,Z5,Z6])
   | (refine along_read (v:=?_) rfl (by rfl) (by rfl) (fun _ _ _ h=>h) hS1 (fun w' hS'=>?_) ?_;rotate_left;(focus (have rd0:=hS'.cell x0 (by first | exact hpr' | exact hsr');have rd1:=hS'.cell q4 (by first | exact hpr' | exact hsr');clear hS';go_simp;try with_reducible rfl));simp only[Act.put,Z1,Z2,Z3,Z4,Z5,Z6])
   | (refine along_skip rfl (by rfl) (by rfl) hS1 ?_;simp only[Act.put,Z1,Z2,Z3,Z4,Z5,Z6])
 have s4:=hS1.cell q4 hsr'
 have hb2:=(HB.out.fresh HXC.out).more hS1 (by simpa using hrbl.1) hsr' (by simpa using (own_kind HRE.out.out rfl).ne HB.out.on.kindAt (by decide) |>.symm)
 have f4:=hb2.free 4
 refine along_op rfl (by rfl) (by rfl) (fun K hK=>?_)
 go_simp
 refine hK.out _ _ (fun h=>absurd h (Bool.eq_false_iff.1 (by kernel_rfl))) ?_
 clear hK K
 try simp only[Act.put,Z1,Z2,Z3,Z4,Z5,Z6]
 refine along_done ?_
 obtain⟨n1,hn1⟩:∃ n1,(s.rest.eraseIdx i).length=n1:=⟨_,rfl⟩
 have HN1:=lh hn1
 rw[hn1] at hn2 ⊢
 have hset:Chg [sb] w2 (w2.setCell ⟨sb,4,none⟩ (.slice (some ⟨rb,0,none⟩) n1 rc)):=(Chg.refl _ _).setCell (Or.inl (by simp)) _
 have hksb:∀ j∈[sb],KindAt w2 j 49:=fun j hj=>by rw[List.mem_singleton.1 hj];exact hb2.kind
 have hkrb:∀ j∈[rb],KindAt w1 j 74:=fun j hj=>by rw[List.mem_singleton.1 hj];exact (own_kind HRE.out.out rfl).chg HXC.out (by simp)
 have HB3:=lh (hb2.set4 (.slice (some ⟨rb,0,none⟩) n1 rc))
 have HF3:=lh (((HFA.out.fresh HXC.out).other hS1 (fun j hj=>⟨_,hkrb j hj,by decide,by decide,by decide⟩)).other hset (fun j hj=>⟨_,hksb j hj,by decide,by decide,by decide⟩))
 have HN3:=lh (hn2.others hset (fun j hj=>⟨_,hksb j hj,by decide,by decide⟩))
 have hrow:∀ {v:Value} {l:List Int},RowAt w w0.heap.size v l→RowAt (w2.setCell ⟨sb,4,none⟩ (.slice (some ⟨rb,0,none⟩) n1 rc)) w0.heap.size v l:=fun {v} {l} hr=>by
  have h1:=hr.chg HXC.out (by simp)
  have h2:=h1.chg hS1 (fun b hb hm=>(h1.kindAt (by simpa using hb)).ne (hkrb b hm) (by decide) rfl)
  exact h2.chg hset (fun b hb hm=>(h2.kindAt (by simpa using hb)).ne (hksb b hm) (by decide) rfl)
 have HE3:=lh (hrow HR0.out)
 have HD3:=lh (hrow HR1.out)
 have HC3:=lh (hrow HR2.out)
 have HT3:=lh (show Chg own w1 (w2.setCell ⟨sb,4,none⟩ (.slice (some ⟨rb,0,none⟩) n1 rc)) from (hS1.mono (fun j hj=>Or.inl (by rw[List.mem_singleton.1 hj];exact HOWN.out.2.2.2.2.1))).trans hset (fun j hj=>Or.inl (by rw[List.mem_singleton.1 hj];exact HOWN.out.2.1)))
 clear hset hksb hkrb hrow hn2 hc2 hS1 hb2 s4 f4 hn1 HPT x0 q4 wi hy1 hys1
 generalize w2.setCell ⟨sb,4,none⟩ (.slice (some ⟨rb,0,none⟩) n1 rc)=w3 at *
 obtain⟨x0,x1,x2,x3⟩:=HBX.out _ HT3.out
 have hP:=HP.out
 have ha0:=hP.a0
 have haN:=hP.aN
 have hel0:=hP.el
 have hedl:=hP.edl
 have hfl0:=hP.fl
 clear hpr hps hpr' hsr'
 go_wp2_with fail
 refine (way_any sb N w0.heap.size ob a c.faces.length vE _ _ o2 p2 g s.on b.v c.edges c.ends w3 HB3.out.gri HB3.out.q2 HB3.out.on hP.edges hedl HE3.out.ints HD3.out.ints (by omega) ha0 haN hP.part hP.aV).mono ?_
 rw[hP.way]
 rintro e w4 ⟨v4,rfl,hr4,hc4⟩
 obtain⟨o4,p4,rfl⟩:=hr4.shape
 have HR4:=lh hr4
 have HT4:=lh (HT3.out.trans hc4 (by simp))
 have HB4:=lh (HB3.out.fresh hc4)
 have HF4:=lh (HF3.out.fresh hc4)
 have HN4:=lh (HN3.out.fresh hc4)
 have HE4:=lh (HE3.out.chg hc4 (by simp))
 have HD4:=lh (HD3.out.chg hc4 (by simp))
 have HC4:=lh (HC3.out.chg hc4 (by simp))
 have HS34:=lh hc4.size
 have hwl:=hP.wl
 have HT3S:=lh HT3.out.size
 clear hr4 hc4 HB3 HF3 HN3 HE3 HD3 HC3 HT3 x0 x1 x2 x3 hP
 have HWD:=lh HP.out.wd
 go_wp2_with fail
 go_loopw [7,41] (fun _ k wr=>∃ j:Nat,j≤wy.length∧k=.int .i64 j∧SkBase w0 wr sb ob N g vE fv (.slice (some ⟨rb,0,none⟩) n1 rc) (Plain.onTo g s.on (wy.take j))∧Chg [ob] w4 wr) (fun _ k _=>wy.length - (intOf k).toNat)
 case atStart=>exact⟨0,Nat.zero_le _,rfl,HB4.out.same (fun _ _=>Plain.onTo_zero _ _ _ _),Chg.refl _ _⟩
 case round =>
  obtain⟨j,hj,rfl,hbj,hcj⟩:=hrel
  have HBJ:=lh hbj
  have HCJ:=lh hcj
  have HTJ:=lh (HT4.out.trans hcj (fun k hk=>Or.inl (by rw[List.mem_singleton.1 hk];exact HOWN.out.2.2.1)))
  have hkob:∀ k∈[ob],KindAt w4 k 4:=fun k hk=>by rw[List.mem_singleton.1 hk];exact HB4.out.on.kindAt
  have HRJ:=lh (HR4.out.chg hcj (fun b hb hm=>(HR4.out.kindAt (by simpa using hb)).ne (hkob b hm) (by decide) rfl))
  obtain⟨x0,x1,x2,x3⟩:=HBX.out _ HTJ.out
  clear hbj hcj
  by_cases hlt:j<wy.length
  ·obtain⟨rb2,erb,hrc⟩:=HRJ.out.some (by omega)
   subst erb
   have rcell:=hrc j hlt
   have hdb:=HWD.out _ (Plain.getD_mem hlt)
   have HT:=lh (Plain.onTo_take (g:=g) (on:=s.on) hlt)
   obtain⟨n,v,hn,hn2,hv,hvN,hn4⟩:=HBJ.out.gri.dart hdb.1 hdb.2
   rw[hn] at rcell HT hv
   rw[hv] at HT
   have HV:=lh hv
   have hvi:(v:Int)<(N:Int):=by omega
   have s0:=HBJ.out.gri.c0
   have s1:=HBJ.out.gri.c1
   have s2:=HBJ.out.q2
   obtain⟨eo,ecap,eqE,-⟩:=HBJ.out.gri.gr
   simp only[Value.agg.injEq,Array.mk.injEq,List.cons.injEq,true_and,and_true] at eqE
   have HGA:=lh HBJ.out.gri.gr
   rw[eqE] at s1 HGA
   have hji:(j:Int)<(wy.length:Int):=by omega
   clear hrc hn hv hdb hkob x1 x2 x3
   go_wp2_with fail
   have hS0:Chg [] wr wr.drew:=(Chg.refl [] wr).drew
   refine wp_region_way (Chg [] wr) [0,1,2,3,4,5,6,7,8,10] (Way.line [0,1,2,3,4,5,6,7,8,9,10,11] .done) (by kernel_rfl) (by kernel_rfl) ?_
   simp only[Way.line]
   repeat
    first
     | (refine along_off rfl (by rfl) (by rfl) (fun _ _ _ h=>h) hS0 ?_;simp only[Act.put,Z1,Z2,Z3,Z4,Z5,Z6])
     | (refine along_read (v:=?_) rfl (by rfl) (by rfl) (fun _ _ _ h=>h) hS0 (fun w' hS'=>?_) ?_;rotate_left;(focus (have rd0:=hS'.cell x0 (by simp);have rd1:=hS'.cell s0 (by simp);have rd2:=hS'.cell s1 (by simp);have rd3:=hS'.cell s2 (by simp);clear hS';go_simp;try with_reducible rfl));simp only[Act.put,Z1,Z2,Z3,Z4,Z5,Z6])
     | (refine along_skip rfl (by rfl) (by rfl) hS0 ?_;simp only[Act.put,Z1,Z2,Z3,Z4,Z5,Z6])
   refine along_op rfl (by rfl) (by rfl) (fun K hK=>?_)
   go_simp
   refine (dleaves_any _ g n _ hn2 (by have:=HSM.out;omega) (HGA.out.fresh hS0)).mono ?_
   rw[HV.out]
   rintro e w9 ⟨rfl,hc9⟩
   have hS1:Chg [] wr w9:=hS0.trans hc9 (by simp)
   refine hK.out _ _ (fun _=>hS1) ?_
   clear hK K hc9 hS0
   try simp only[Act.put,Z1,Z2,Z3,Z4,Z5,Z6]
   repeat
    first
     | (refine along_off rfl (by rfl) (by rfl) (fun _ _ _ h=>h) hS1 ?_;simp only[Act.put,Z1,Z2,Z3,Z4,Z5,Z6])
     | (refine along_read (v:=?_) rfl (by rfl) (by rfl) (fun _ _ _ h=>h) hS1 (fun w' hS'=>?_) ?_;rotate_left;(focus (have rd0:=hS'.cell x0 (by simp);have rd1:=hS'.cell s0 (by simp);have rd2:=hS'.cell s1 (by simp);have rd3:=hS'.cell s2 (by simp);clear hS';go_simp;try with_reducible rfl));simp only[Act.put,Z1,Z2,Z3,Z4,Z5,Z6])
     | (refine along_skip rfl (by rfl) (by rfl) hS1 ?_;simp only[Act.put,Z1,Z2,Z3,Z4,Z5,Z6])
   have hb9:=HBJ.out.fresh hS1
   have bc:=hb9.on.cell hvN
   have bf:=hb9.on.free v
   refine along_op rfl (by rfl) (by rfl) (fun K hK=>?_)
   go_simp
   refine hK.out _ _ (fun h=>absurd h (Bool.eq_false_iff.1 (by kernel_rfl))) ?_
   clear hK K
   try simp only[Act.put,Z1,Z2,Z3,Z4,Z5,Z6]
   refine along_done ?_
   have HB10:=lh ((hb9.setOn v).same (on':=Plain.onTo g s.on (wy.take (j+1))) (fun i _=>(HT.out i).symm))
   have HC10:=lh ((HCJ.out.trans hS1 (by simp)).trans ((Chg.refl [ob] w9).setCell (p:=⟨ob,v,none⟩) (Or.inl (by simp)) (.bool true)) (fun j hj=>Or.inl hj))
   clear hb9 bc bf hS1 x0 s0 s1 s2 rcell
   generalize w9.setCell ⟨ob,v,none⟩ (.bool true)=w10 at *
   go_wp2
   go_roundw
   case rel=>exact⟨j+1,by omega,by go_num,HB10.out,HC10.out⟩
   case measure=>simp[intOf];omega
  have e:j=wy.length:=by omega
  subst e
  rw[List.take_length] at HBJ
  have hcj:=HCJ.out
  have HF5:=lh (HF4.out.chg hcj (fun b hb hm=>(own_kind HF4.out.out hb).ne (hkob b hm) (by decide) rfl) (fun k b hk hb hm=>HFAR1.out.o k hk (by rw[hb,List.mem_singleton.1 hm])))
  have HN5:=lh (HN4.out.others hcj (fun j hj=>⟨_,hkob j hj,by decide,by decide⟩))
  have hrow:∀ {v:Value} {l:List Int},RowAt w4 w0.heap.size v l→RowAt wr w0.heap.size v l:=fun {v} {l} hr=>hr.chg hcj (fun b hb hm=>(hr.kindAt (by simpa using hb)).ne (hkob b hm) (by decide) rfl)
  have HE5:=lh (hrow HE4.out)
  have HD5:=lh (hrow HD4.out)
  have HC5:=lh (hrow HC4.out)
  have HS45:=lh hcj.size
  have HB5:=lh HBJ.out
  clear hcj hkob hrow HF4 HN4 HE4 HD4 HC4 HB4 HT4 HR4 HBJ HCJ hj hlt
  obtain⟨eb,ee,hec⟩:=HD5.out.some (by omega)
  subst ee
  have d0:=hec 0 (by omega)
  rw[ha0] at d0
  have hwp:0<wy.length:=List.length_pos_iff.2 HP.out.wne
  obtain⟨wb,ew,hwc⟩:=HRJ.out.some hwp
  subst ew
  have HWLO:=lh (show pb≤wb from Nat.le_trans (Nat.le_trans hpw1 HT3S.out) (HRJ.out.low wb (by simp[Value.ownBlock])).1)
  have dl:=hwc (wy.length - 1) (by omega)
  obtain⟨l1,l2⟩:=Plain.last_getD HP.out.wne
  have hld:=HWD.out _ l2
  have hlz:=HP.out.z0
  rw[l1] at dl
  obtain⟨m,hm⟩:∃ m:Nat,wy.getLastD 0=m:=⟨(wy.getLastD 0).toNat,by omega⟩
  rw[hm] at dl hld hlz
  have hm2:m / 2<g.e.length:=by omega
  have hbt:=bits_twin m (by have:=HSM.out;omega)
  have htl:g.tail (Plain.twin (m:Int))=(z:Int):=by rw[Plain.tail_twin];exact hlz
  have htd:=Plain.twin_div (m:Int)
  obtain⟨tm,htm⟩:∃ tm:Nat,Plain.twin (m:Int)=tm:=⟨(Plain.twin (m:Int)).toNat,by unfold Plain.twin;split <;> omega⟩
  rw[htm] at hbt htl htd
  have htm2:tm / 2<g.e.length:=by omega
  have HLZ:=lh htl
  clear htm htl htd
  have s0:=HB5.out.gri.c0
  have s1:=HB5.out.gri.c1
  obtain⟨eo,ecap,eqE,-⟩:=HB5.out.gri.gr
  simp only[Value.agg.injEq,Array.mk.injEq,List.cons.injEq,true_and,and_true] at eqE
  subst eqE
  have HGA:=lh HB5.out.gri.gr
  have hw1:(wy.length:Int)≤1024:=by omega
  have hwy0:0<(wy.length:Int):=by omega
  have hel1:0<c.ends.length:=by omega
  have hq1:1≤(wy.length:Int):=by omega
  have hq2:(wy.length:Int) - 1<(wy.length:Int):=by omega
  have wq:IntKind.i64.wrap ((wy.length:Int) - 1)=(wy.length:Int) - 1:=IntWalk.i64_in _ (by omega)
  clear hec hwc l1 l2 hld hlz hm
  go_wp2_with fail
  have hS0:Chg [] wr wr.drew:=(Chg.refl [] wr).drew
  refine wp_region_way (Chg [] wr) [0,1,2,3,4,5,6,7,8,9,10,11,12,13,14,16,17] (Way.line [0,1,2,3,4,5,6,7,8,9,10,11,12,13,14,15,16,17] .done) (by kernel_rfl) (by kernel_rfl) ?_
  simp only[Way.line]
  repeat
   first
    | (refine along_off rfl (by rfl) (by rfl) (fun _ _ _ h=>h) hS0 ?_;simp only[Act.put,Z1,Z2,Z3,Z4,Z5,Z6])
    | (refine along_read (v:=?_) rfl (by rfl) (by rfl) (fun _ _ _ h=>h) hS0 (fun w' hS'=>?_) ?_;rotate_left;(focus (have rd0:=hS'.cell x0 (by simp);have rd1:=hS'.cell x2 (by simp);have rd2:=hS'.cell s0 (by simp);have rd3:=hS'.cell s1 (by simp);have rd4:=hS'.cell d0 (by simp);have rd5:=hS'.cell dl (by simp);clear hS';go_simp;try with_reducible rfl));simp only[Act.put,Z1,Z2,Z3,Z4,Z5,Z6])
    | (refine along_skip rfl (by rfl) (by rfl) hS0 ?_;simp only[Act.put,Z1,Z2,Z3,Z4,Z5,Z6])
  refine along_op rfl (by rfl) (by rfl) (fun K hK=>?_)
  go_simp
  refine (dleaves_any _ g tm _ htm2 (by have:=HSM.out;omega) (HGA.out.fresh hS0)).mono ?_
  rw[HLZ.out]
  rintro e w6 ⟨rfl,hc6⟩
  have hS1:Chg [] wr w6:=hS0.trans hc6 (by simp)
  refine hK.out _ _ (fun _=>hS1) ?_
  clear hK K hc6 hS0
  try simp only[Act.put,Z1,Z2,Z3,Z4,Z5,Z6]
  repeat
   first
    | (refine along_off rfl (by rfl) (by rfl) (fun _ _ _ h=>h) hS1 ?_;simp only[Act.put,Z1,Z2,Z3,Z4,Z5,Z6])
    | (refine along_read (v:=?_) rfl (by rfl) (by rfl) (fun _ _ _ h=>h) hS1 (fun w' hS'=>?_) ?_;rotate_left;(focus (skip;clear hS';go_simp;try with_reducible rfl));simp only[Act.put,Z1,Z2,Z3,Z4,Z5,Z6])
    | (refine along_skip rfl (by rfl) (by rfl) hS1 ?_;simp only[Act.put,Z1,Z2,Z3,Z4,Z5,Z6])
  refine along_done ?_
  have HB6:=lh (HB5.out.fresh hS1)
  have HF6:=lh (HF5.out.fresh hS1)
  have HN6:=lh (HN5.out.fresh hS1)
  have HE6:=lh (HE5.out.chg hS1 (by simp))
  have HC6:=lh (HC5.out.chg hS1 (by simp))
  have HW6:=lh (HRJ.out.chg hS1 (by simp))
  have HT6:=lh (HTJ.out.trans hS1 (by simp))
  have HS46:=lh (Nat.le_trans HS45.out hS1.size)
  clear hS1 HB5 HF5 HN5 HE5 HD5 HC5 HRJ HTJ HS45 s0 s1 d0 dl x0 x1 x2 x3 HGA hbt htm2 HLZ hwy0 hel1 hq1 hq2 wq hm2
  obtain⟨x0,x1,x2,x3⟩:=HBX.out _ HT6.out
  obtain⟨cb,ce,hcc⟩:=HC6.out.some (by omega)
  subst ce
  have d0:=hcc 0 (by omega)
  rw[HP.out.f0] at d0
  obtain⟨fb,fc,hfv⟩:=owns_some HF6.out.out (by have:=HP.out.fF;omega)
  subst hfv
  have hfF:=HP.out.fF
  have hfr:=HF6.out.row f hfF
  rw[HP.out.oldIs] at hfr
  have fcell:=HF6.out.cell (k:=2*f) (by rw[HF6.out.len];omega)
  obtain⟨u0,hu0⟩:∃ u,xs.getD (2*f) undef=u:=⟨_,rfl⟩
  rw[hu0] at hfr fcell
  obtain⟨o5,p5,rfl⟩:=hfr.shape
  have HOLD:=lh hfr
  have q3:=HB6.out.q3
  have hfl1:0<c.faces.length:=by omega
  have hfi:(f:Int)<(s.faces.length:Int):=by omega
  rw[Nat.mul_comm 2 f] at fcell
  clear hcc hfr
  go_wp2_with fail
  have hol:0<old.length:=by
   obtain⟨x,hx,-⟩:=HP.out.oa
   exact List.length_pos_of_mem hx
  obtain⟨db,e5,-⟩:=HOLD.out.some hol
  subst e5
  obtain⟨-,hcap5⟩:=row_cap HOLD.out
  have hol2:=HP.out.ol
  have hol22:old.length<1000000000:=by omega
  obtain⟨hfi1,hfi2⟩:=Plain.ixP_find (P:=fun d=>decide (g.tail d=(a:Int))) (l:=old) (by obtain⟨x,hx,e⟩:=HP.out.oa;exact⟨x,hx,decide_eq_true e⟩)
  obtain⟨k1,hk1⟩:∃ k1,old.findIdx (fun d=>decide (g.tail d=(a:Int)))=k1:=⟨_,rfl⟩
  have HK1:=lh hk1
  rw[hk1] at hfi1 hfi2
  have HFI:=lh hfi1
  have hsa:=(Chg.refl [] w6).alloc (.cells #[.int .i64 (a:Nat)] 3)
  have hbx:=heap_alloc_new w6 (.cells #[.int .i64 (a:Nat)] 3)
  have hax:=(cell_of_row _ _ 0 _ _ _ hbx).trans (show _=some (Value.int .i64 (a:Nat)) from rfl)
  have ha24:a<1000000:=by have:=HSM.out;omega
  have hz24:z<1000000:=by have:=HSM.out;have:=HP.out.zN;omega
  clear hfi1 hk1 hbx x1 x2 x3 d0 fcell q3
  refine (put1_any pb a ha24 w6).mono ?_
  rintro e w7 ⟨rfl,rfl⟩
  go_wp2_with fail
  refine (ixput_any a pb w6.heap.size sb N _ g _ old _ (HB6.out.fresh hsa).gri ha24 (hsa.cell x0 (by simp)) hax HP.out.od hol22 (HOLD.out.ints.fresh hsa)).mono ?_
  rw[HFI.out]
  rintro e w8 ⟨rfl,hc8⟩
  have hs8:Chg [] w6 w8:=hsa.trans hc8 (by simp)
  have HS8:=lh hs8
  have HOLD8:=lh (HOLD.out.chg hs8 (by simp))
  have hk1o:k1≤old.length:=by omega
  have hk1c:k1≤p5:=by omega
  have hk1n:¬ p5=k1:=by omega
  have hk1i:(k1:Int)≤(old.length:Int):=by omega
  have hk1j:(k1:Int)≤(p5:Int):=by omega
  clear hsa hax hc8 hs8 x0
  go_wp2_with fail
  have hS0:Chg [] w8 w8.drew:=(Chg.refl [] w8).drew
  refine wp_region_way (Chg [] w8) [0,1,2,3,4,5,8] (Way.line [0,1,2,3,4,5,6,7,8] .done) (by kernel_rfl) (by kernel_rfl) ?_
  simp only[Way.line]
  repeat
   first
    | (refine along_off rfl (by rfl) (by rfl) (fun _ _ _ h=>h) hS0 ?_;simp only[Act.put,Z1,Z2,Z3,Z4,Z5,Z6])
    | (refine along_read (v:=?_) rfl (by rfl) (by rfl) (fun _ _ _ h=>h) hS0 (fun w' hS'=>?_) ?_;rotate_left;(focus (skip;clear hS';go_simp;try with_reducible rfl));simp only[Act.put,Z1,Z2,Z3,Z4,Z5,Z6])
    | (refine along_skip rfl (by rfl) (by rfl) hS0 ?_;simp only[Act.put,Z1,Z2,Z3,Z4,Z5,Z6])
  refine along_op rfl (by rfl) (by rfl) (fun K hK=>?_)
  go_simp
  refine hK.out _ _ (fun _=>hS0.alloc (.cells #[.slice (some ⟨db,k1,none⟩) (old.length - k1) (p5 - k1),.slice (some ⟨db,0,none⟩) k1 p5] 25)) ?_
  clear hK K
  try simp only[Act.put,Z1,Z2,Z3,Z4,Z5,Z6]
  refine along_op rfl (by rfl) (by rfl) (fun K hK=>?_)
  go_simp
  refine (concat2_any (.slice (some ⟨db,k1,none⟩) (old.length - k1) (p5 - k1)) (.slice (some ⟨db,0,none⟩) k1 p5) (old.drop k1) (old.take k1) w8.drew ((ints_drop HOLD8.out hk1o).fresh hS0) ((ints_take HOLD8.out hk1o).fresh hS0) (by rw[List.length_drop,List.length_take];omega)).mono ?_
  rintro e w9 ⟨v9,rfl,hr9,hc9⟩
  have hS1:Chg [] w8 w9:=hS0.trans hc9 (by simp)
  refine hK.out _ _ (fun _=>hS1) ?_
  clear hK K
  try simp only[Act.put,Z1,Z2,Z3,Z4,Z5,Z6]
  repeat
   first
    | (refine along_off rfl (by rfl) (by rfl) (fun _ _ _ h=>h) hS1 ?_;simp only[Act.put,Z1,Z2,Z3,Z4,Z5,Z6])
    | (refine along_read (v:=?_) rfl (by rfl) (by rfl) (fun _ _ _ h=>h) hS1 (fun w' hS'=>?_) ?_;rotate_left;(focus (skip;clear hS';go_simp;try with_reducible rfl));simp only[Act.put,Z1,Z2,Z3,Z4,Z5,Z6])
    | (refine along_skip rfl (by rfl) (by rfl) hS1 ?_;simp only[Act.put,Z1,Z2,Z3,Z4,Z5,Z6])
  refine along_done ?_
  obtain⟨o,ho⟩:∃ o,old.drop k1++old.take k1=o:=⟨_,rfl⟩
  have HO:=lh ho
  rw[ho] at hr9
  have hoo:∀ d∈o,d∈old:=fun d hd=>by
   rw[←ho] at hd
   rcases List.mem_append.1 hd with r | r
   ·exact List.mem_of_mem_drop r
   exact List.mem_of_mem_take r
  have hoo2:∀ d∈old,d∈o:=fun d hd=>by
   rw[←ho]
   rw[←List.take_append_drop k1 old] at hd
   exact (List.mem_append.1 hd).elim (fun r=>List.mem_append_right _ r) (fun r=>List.mem_append_left _ r)
  have hlo:o.length=old.length:=by rw[←ho,List.length_append,List.length_drop,List.length_take];omega
  have HOD:=lh (show ∀ d∈o,0≤d∧d / 2<g.e.length from fun d hd=>HP.out.od d (hoo d hd))
  have hoz:∃ x∈o,decide (g.tail x=(z:Int))=true:=by
   obtain⟨x,hx,e⟩:=HP.out.oz
   exact⟨x,hoo2 x hx,decide_eq_true e⟩
  obtain⟨hfi1,hfi2⟩:=Plain.ixP_find hoz
  obtain⟨j1,hj1⟩:∃ j1,o.findIdx (fun d=>decide (g.tail d=(z:Int)))=j1:=⟨_,rfl⟩
  have HJ1:=lh hj1
  rw[hj1] at hfi1 hfi2
  have HFJ:=lh hfi1
  have hS69:=HS8.out.trans hS1 (by simp)
  have HT9:=lh (HT6.out.trans hS69 (by simp))
  have HB9:=lh (HB6.out.fresh hS69)
  have HF9:=lh (HF6.out.fresh hS69)
  have HN9:=lh (HN6.out.fresh hS69)
  have HE9:=lh (HE6.out.chg hS69 (by simp))
  have HW9:=lh (HW6.out.chg hS69 (by simp))
  have HS49:=lh (Nat.le_trans HS46.out hS69.size)
  obtain⟨o9,p9,rfl⟩:=hr9.shape
  obtain⟨gb,e9,-⟩:=hr9.some (by omega)
  subst e9
  obtain⟨-,hcap9⟩:=row_cap hr9
  have hj1o:j1≤o.length:=by omega
  have hj1c:j1≤p9:=by omega
  have hj1n:¬ p9=j1:=by omega
  have hj1i:(j1:Int)≤(o.length:Int):=by omega
  have hj1j:(j1:Int)≤(p9:Int):=by omega
  have hlt1:(o.take j1).length+(Plain.twins wy).length<1000000:=by rw[List.length_take,Plain.twins_len];omega
  have hlt2:wy.length+(o.drop j1).length<1000000:=by rw[List.length_drop];omega
  have HO9:=lh (hr9.base (B:=w4.heap.size) (Nat.le_trans HS46.out HS8.out.size))
  have hol9:o.length≤2048:=by omega
  have hol99:o.length<1000000000:=by omega
  clear hlo ho hoo hoo2 hoz hfi1 hj1 hr9 hc9 hS0 hS1 hS69 HB6 HF6 HN6 HE6 HW6 HS46 HT6 HS8 HOLD HOLD8 HFI hk1o hk1c hk1n hk1i hk1j hfi2
  obtain⟨x0,x1,x2,x3⟩:=HBX.out _ HT9.out
  go_wp2_with fail
  have hsa:=(Chg.refl [] w9).alloc (.cells #[.int .i64 (z:Nat)] 3)
  have hbx:=heap_alloc_new w9 (.cells #[.int .i64 (z:Nat)] 3)
  have hax:=(cell_of_row _ _ 0 _ _ _ hbx).trans (show _=some (Value.int .i64 (z:Nat)) from rfl)
  clear hbx
  refine (put1_any pb z hz24 w9).mono ?_
  rintro e w10 ⟨rfl,rfl⟩
  go_wp2_with fail
  refine (ixput_any z pb w9.heap.size sb N _ g _ o _ (HB9.out.fresh hsa).gri hz24 (hsa.cell x0 (by simp)) hax HOD.out hol99 (HO9.out.ints.fresh hsa)).mono ?_
  rw[HFJ.out]
  rintro e w11 ⟨rfl,hc11⟩
  have hS:=hsa.trans hc11 (by simp)
  have HT11:=lh (HT9.out.trans hS (by simp))
  have HB11:=lh (HB9.out.fresh hS)
  have HF11:=lh (HF9.out.fresh hS)
  have HN11:=lh (HN9.out.fresh hS)
  have HE11:=lh (HE9.out.chg hS (by simp))
  have HW11:=lh (HW9.out.chg hS (by simp))
  have HO11:=lh (HO9.out.chg hS (by simp))
  have HS411:=lh (Nat.le_trans HS49.out hS.size)
  clear hsa hax hc11 hS x0 x1 x2 x3 HT9 HB9 HF9 HN9 HE9 HW9 HO9 HS49 HFJ
  obtain⟨x0,x1,x2,x3⟩:=HBX.out _ HT11.out
  have q3:=HB11.out.q3
  obtain⟨F0,hF0⟩:∃ F0,s.faces.length=F0:=⟨_,rfl⟩
  have HF0:=lh hF0
  have hFl:=HP.out.Fl
  have hkb:=own_kind HF11.out.out rfl
  obtain⟨cs,rr,hcs⟩:=hkb
  have hcs2:rr=(0,0)∧2*F0≤cs.size:=by
   rcases HF11.out.out.2 with ⟨q,-⟩ | ⟨g',c',cur,q,-,hh,h3,-,h5,-⟩
   ·cases q
   cases q
   rw[hcs] at hh
   simp only[Option.some.injEq,Obj.cells.injEq,true_and] at hh
   obtain⟨rfl,rfl⟩:=hh
   exact⟨rfl,by omega⟩
  obtain⟨rfl,hcsz⟩:=hcs2
  have HCS:=lh hcs
  rw[hF0] at hfF hFl q3 hfi
  have HBOTH:=lh (heap_alloc_new w11 (.cells #[.int .i64 (f:Nat),.int .i64 (F0:Nat)] 3))
  have hsb:=(Chg.refl [] w11).alloc (.cells #[.int .i64 (f:Nat),.int .i64 (F0:Nat)] 3)
  have hlit:=lit_two w11 (x:=(f:Nat)) (y:=(F0:Nat)) (I64.mk (by omega) (by omega)) (I64.mk (by omega) (by omega))
  have HNEW:=lh (show ∀ b,pb≤b→b≠ob∧∀ l,l<ys1.length→(ys1.getD l undef).ownBlock≠some b from fun b hb=>by
   refine⟨fun e=>?_,fun l hl e=>?_⟩
   ·have:=HOWN.out.1 ob HOWN.out.2.2.1
    have:=HPB.out
    omega
   have:=HOWN.out.1 b (HOY1.out l b hl e)
   have:=HPB.out
   omega)
  have hB12:=HB11.out.fresh hsb
  have HF12:=lh (HF11.out.fresh hsb)
  have HN12:=lh (HN11.out.fresh hsb)
  have HE12:=lh (HE11.out.chg hsb (by simp))
  have HW12:=lh (HW11.out.chg hsb (by simp))
  have HO12:=lh (HO11.out.chg hsb (by simp))
  have HT12:=lh (HT11.out.trans hsb (by simp))
  have HS412:=lh (Nat.le_trans HS411.out hsb.size)
  have HCS12:=lh (hsb.heap hcs (by simp))
  have HB12:=lh hB12
  have hq12:=hB12.q3
  have HLIT:=lh hlit
  have hbbs:=(show w11.heap.size<(w11.alloc (.cells #[.int .i64 (f:Nat),.int .i64 (F0:Nat)] 3)).heap.size by simp)
  have HT11S:=lh HT11.out.size
  clear x1 x2 x3 hcs HB11 HF11 HN11 HE11 HW11 HO11 HT11 HS411 hB12 hlit HCS
  go_wp2_with fail
  clear x0 q3
  obtain⟨x0,-,-,-⟩:=HBX.out _ HT12.out
  have q3:=hq12
  rw[hF0] at q3
  obtain⟨bb,hbb⟩:∃ bb,w11.heap.size=bb:=⟨_,rfl⟩
  rw[hbb] at HLIT HBOTH hbbs ⊢
  have HBLO:=lh (show pb≤bb by rw[←hbb];exact Nat.le_trans hpw1 HT11S.out)
  generalize w11.alloc (.cells #[.int .i64 (f:Nat),.int .i64 (F0:Nat)] 3)=w12 at *
  clear hsb hbb hq12
  have HWB:=lh (show ∀ d∈wy,0≤d∧d<4294967296 from fun d hd=>by
   have h1:=HWD.out d hd
   have h2:=HSM.out
   omega)
  have HL1D:=lh (show ∀ d∈o.take j1++Plain.twins wy,0≤d∧d / 2<g.e.length from fun d hd=>by
   rcases List.mem_append.1 hd with r | r
   ·exact HOD.out d (List.mem_of_mem_take r)
   have h1:=HWD.out _ (Plain.twins_mem.1 r)
   have h2:=Plain.twin_div d
   omega)
  have HL2D:=lh (show ∀ d∈wy++o.drop j1,0≤d∧d / 2<g.e.length from fun d hd=>by
   rcases List.mem_append.1 hd with r | r
   ·exact HWD.out d r
   exact HOD.out d (List.mem_of_mem_drop r))
  have hll1:(o.take j1++Plain.twins wy).length≤1000000:=by rw[List.length_append];omega
  have hll2:(wy++o.drop j1).length≤1000000:=by rw[List.length_append];omega
  have hwl6:wy.length≤1000000:=by omega
  obtain⟨L1,hL1⟩:∃ L1,o.take j1++Plain.twins wy=L1:=⟨_,rfl⟩
  have HL1:=lh hL1
  obtain⟨L2,hL2⟩:∃ L2,wy++o.drop j1=L2:=⟨_,rfl⟩
  have HL2:=lh hL2
  obtain⟨tw,htw⟩:∃ tw,Plain.twins wy=tw:=⟨_,rfl⟩
  have HTW:=lh htw
  rw[hL1] at HL1D hll1
  rw[hL2] at HL2D hll2
  rw[htw] at hlt1
  clear hL1 hL2 htw
  have hfc:f*2+1<cs.size:=by omega
  have hS0:Chg [] w12 w12.drew:=(Chg.refl [] w12).drew
  refine wp_region_way (Chg [] w12) [0,1,2,3,4,5,6,7,8,9,14] (Way.line [0,1,2,3,4,5,6,7,8,9,10,11,12,13,14,15] .done) (by kernel_rfl) (by kernel_rfl) ?_
  simp only[Way.line]
  repeat
   first
    | (refine along_off rfl (by rfl) (by rfl) (fun _ _ _ h=>h) hS0 ?_;simp only[Act.put,Z1,Z2,Z3,Z4,Z5,Z6])
    | (refine along_read (v:=?_) rfl (by rfl) (by rfl) (fun _ _ _ h=>h) hS0 (fun w' hS'=>?_) ?_;rotate_left;(focus (have rd0:=hS'.cell x0 (by simp);have rd1:=hS'.cell q3 (by simp);clear hS';go_simp;try with_reducible rfl));simp only[Act.put,Z1,Z2,Z3,Z4,Z5,Z6])
    | (refine along_skip rfl (by rfl) (by rfl) hS0 ?_;simp only[Act.put,Z1,Z2,Z3,Z4,Z5,Z6])
  refine along_op rfl (by rfl) (by rfl) (fun K hK=>?_)
  go_simp
  refine (twins_any _ wy _ hwl6 HWB.out (HW12.out.ints.fresh hS0)).mono ?_
  rw[HTW.out]
  rintro e w13 ⟨v13,rfl,hr13,hc13⟩
  obtain⟨o13,p13,rfl⟩:=hr13.shape
  have hS1:Chg [] w12 w13:=hS0.trans hc13 (by simp)
  refine hK.out _ _ (fun _=>hS1) ?_
  clear hK K hS0 hc13
  try simp only[Act.put,Z1,Z2,Z3,Z4,Z5,Z6]
  repeat
   first
    | (refine along_off rfl (by rfl) (by rfl) (fun _ _ _ h=>h) hS1 ?_;simp only[Act.put,Z1,Z2,Z3,Z4,Z5,Z6])
    | (refine along_read (v:=?_) rfl (by rfl) (by rfl) (fun _ _ _ h=>h) hS1 (fun w' hS'=>?_) ?_;rotate_left;(focus (have rd0:=hS'.cell x0 (by simp);have rd1:=hS'.cell q3 (by simp);clear hS';go_simp;try with_reducible rfl));simp only[Act.put,Z1,Z2,Z3,Z4,Z5,Z6])
    | (refine along_skip rfl (by rfl) (by rfl) hS1 ?_;simp only[Act.put,Z1,Z2,Z3,Z4,Z5,Z6])
  refine along_op rfl (by rfl) (by rfl) (fun K hK=>?_)
  go_simp
  refine hK.out _ _ (fun _=>hS1.alloc (.cells #[.slice (some ⟨gb,0,none⟩) j1 p9,.slice o13 tw.length p13] 25)) ?_
  clear hK K
  try simp only[Act.put,Z1,Z2,Z3,Z4,Z5,Z6]
  refine along_op rfl (by rfl) (by rfl) (fun K hK=>?_)
  go_simp
  refine (concat2_any (.slice (some ⟨gb,0,none⟩) j1 p9) (.slice o13 tw.length p13) (o.take j1) tw w13 ((ints_take HO12.out hj1o).fresh hS1) hr13.ints hlt1).mono ?_
  have HL1':=lh (show o.take j1++tw=L1 by rw[←HTW.out];exact HL1.out)
  rw[HL1'.out]
  rintro e w14 ⟨v14,rfl,hr14,hc14⟩
  obtain⟨o14,p14,rfl⟩:=hr14.shape
  have hS2:Chg [] w12 w14:=hS1.trans hc14 (by simp)
  refine hK.out _ _ (fun _=>hS2) ?_
  clear hK K hc14
  try simp only[Act.put,Z1,Z2,Z3,Z4,Z5,Z6]
  refine along_op rfl (by rfl) (by rfl) (fun K hK=>?_)
  go_simp
  refine (border_any sb N _ _ g L1 w14 (HB12.out.fresh hS2).gri hll1 HL1D.out hr14.ints).mono ?_
  rintro e w15 ⟨hb1,rfl,hbb1,hc15⟩
  have hS3:Chg [] w12 w15:=hS2.trans hc15 (by simp)
  refine hK.out _ _ (fun _=>hS3) ?_
  clear hK K
  try simp only[Act.put,Z1,Z2,Z3,Z4,Z5,Z6]
  repeat
   first
    | (refine along_off rfl (by rfl) (by rfl) (fun _ _ _ h=>h) hS3 ?_;simp only[Act.put,Z1,Z2,Z3,Z4,Z5,Z6])
    | (refine along_read (v:=?_) rfl (by rfl) (by rfl) (fun _ _ _ h=>h) hS3 (fun w' hS'=>?_) ?_;rotate_left;(focus (have rd0:=hS'.cell x0 (by simp);have rd1:=hS'.cell q3 (by simp);clear hS';go_simp;try with_reducible rfl));simp only[Act.put,Z1,Z2,Z3,Z4,Z5,Z6])
    | (refine along_skip rfl (by rfl) (by rfl) hS3 ?_;simp only[Act.put,Z1,Z2,Z3,Z4,Z5,Z6])
  refine along_op rfl (by rfl) (by rfl) (fun K hK=>?_)
  simp only[List.getElem_toArray,List.getElem_cons_zero,List.getElem_cons_succ]
  refine wp_storeB (.tmp 125) (.tmp 124) rfl rfl rfl (hS3.heap HCS12.out (by simp)) hfc ?_
  refine hK.out _ _ (fun h=>absurd h (Bool.eq_false_iff.1 (by kernel_rfl))) ?_
  clear hK K
  try simp only[Act.put]
  refine along_done ?_
  have hs14:pb≤w12.heap.size:=Nat.le_trans hpw1 HT12.out.size
  have hr15:=(hr14.chg hc15 (by simp)).base (B:=w0.heap.size) (Nat.le_trans (HB12.out.chg.size) hS1.size)
  have hbb15:=hbb1.base (B:=w0.heap.size) (Nat.le_trans (HB12.out.chg.size) hS2.size)
  have hF16:=(HF12.out.fresh hS3).put (v:=.slice o14 L1.length p14) (hb:=hb1) HP.out.fF hr15 hbb15
  have hkfb:∀ j∈[fb],KindAt w15 j 68:=fun j hj=>by rw[List.mem_singleton.1 hj];exact own_kind (HF12.out.fresh hS3).out rfl
  have hfar16:FarAt ob ((xs.set (2*f) (.slice o14 L1.length p14)).set (2*f+1) (.slice (some ⟨hb1,0,none⟩) N N)) ys1:=by
   have hxl:=HF12.out.len
   have hfF':=HP.out.fF
   refine (HFAR1.out.put (by omega) fun b hb=>HNEW.out b ?_).put (by rw[List.length_set];omega) fun b hb=>HNEW.out b ?_
   ·have h1:=(hr14.low b (by rw[hb];simp)).1
    have h2:=hS1.size
    omega
   have:hb1=b:=by simpa[Value.ownBlock] using hb
   have h1:=hbb1.lt.1
   have h2:=hS2.size
   omega
  rw[Nat.mul_comm 2 f] at hF16 hfar16
  have hset:Chg [fb] w15 ((w15.setCell ⟨fb,f*2,none⟩ (.slice o14 L1.length p14)).setCell ⟨fb,f*2+1,none⟩ (.slice (some ⟨hb1,0,none⟩) N N)):=((Chg.refl _ _).setCell (Or.inl (by simp)) _).setCell (Or.inl (by simp)) _
  have hb15:=HB12.out.fresh hS3
  have hfsb:sb ∉ [fb]:=fun q=>hb15.kind.ne (hkfb sb q) (by decide) rfl
  have hfob:ob ∉ [fb]:=fun q=>hb15.on.kindAt.ne (hkfb ob q) (by decide) rfl
  have hfbl:=(HF12.out.out.lt fb rfl)
  have HB16:=lh (hb15.more hset (by simpa using hfbl.1) hfsb hfob)
  have HN16:=lh ((HN12.out.fresh hS3).others hset (fun j hj=>⟨_,hkfb j hj,by decide,by decide⟩))
  have hrow:∀ {B:Nat} {v:Value} {l:List Int},RowAt w12 B v l→RowAt ((w15.setCell ⟨fb,f*2,none⟩ (.slice o14 L1.length p14)).setCell ⟨fb,f*2+1,none⟩ (.slice (some ⟨hb1,0,none⟩) N N)) B v l:=fun {B} {v} {l} hr=>by
   have h1:=hr.chg hS3 (by simp)
   exact h1.chg hset (fun b hb hm=>(h1.kindAt (by simpa using hb)).ne (hkfb b hm) (by decide) rfl)
  have HE16:=lh (hrow HE12.out)
  have HW16:=lh (hrow HW12.out)
  have HO16:=lh (hrow HO12.out)
  have HT16:=lh ((HT12.out.trans hS3 (by simp)).trans hset (fun j hj=>Or.inl (by rw[List.mem_singleton.1 hj];exact HOWN.out.2.2.2.1 fb rfl)))
  have HF16:=lh hF16
  have HFAR16:=lh hfar16
  have hbbf:bb ∉ [fb]:=fun q=>by
   have h1:KindAt w15 bb 3:=by
    have h2:KindAt w12 bb 3:=⟨_,_,HBOTH.out⟩
    exact h2.chg hS3 (by simp)
   exact h1.ne (hkfb bb q) (by decide) rfl
  have HBB16:=lh (hset.heap (hS3.heap HBOTH.out (by simp)) hbbf)
  have HS416:=lh (Nat.le_trans HS412.out (Nat.le_trans hS3.size hset.size))
  have hs16:=Nat.le_trans hs14 (Nat.le_trans hS3.size hset.size)
  clear hset hrow hb15 hkfb hF16 hfar16 hr15 hbb15 hr14 hbb1 hr13 hS1 hS2 hS3 hc15 hfsb hfob hbbf HB12 HN12 HE12 HW12 HO12 HT12 HF12 HBOTH HS412 HCS12 x0 q3 hlt1 hll1 HL1D hfc hcsz hbbs
  generalize (w15.setCell ⟨fb,f*2,none⟩ (.slice o14 L1.length p14)).setCell ⟨fb,f*2+1,none⟩ (.slice (some ⟨hb1,0,none⟩) N N)=w16 at *
  obtain⟨xs1,hxs1⟩:∃ xs1,((xs.set (f*2) (.slice o14 L1.length p14)).set (f*2+1) (.slice (some ⟨hb1,0,none⟩) N N))=xs1:=⟨_,rfl⟩
  rw[hxs1] at HF16 HFAR16
  clear hxs1
  obtain⟨F1,hF1⟩:∃ F1,s.faces.set f L1=F1:=⟨_,rfl⟩
  have HF1:=lh hF1
  have hFL1:F1.length=F0:=by rw[←hF1,List.length_set];exact HF0.out
  rw[hF1] at HF16
  rw[HF0.out] at HF16 HB16
  clear hF1
  obtain⟨x0,-,-,-⟩:=HBX.out _ HT16.out
  have q3:=HB16.out.q3
  have hkfb:KindAt w16 fb 68:=own_kind HF16.out.out rfl
  have hpf':pb ∉ [fb]:=by
   rw[List.mem_singleton]
   intro e
   have h1:=(HOWN.out.1 fb (HOWN.out.2.2.2.1 fb rfl)).2
   have h2:=HPB.out
   omega
  have hsf':sb ∉ [fb]:=fun q=>HB16.out.kind.ne (by rw[List.mem_singleton.1 q];exact hkfb) (by decide) rfl
  have hof':ob ∉ [fb]:=fun q=>HB16.out.on.kindAt.ne (by rw[List.mem_singleton.1 q];exact hkfb) (by decide) rfl
  have hfbl:=(HF16.out.out.lt fb rfl).1
  have hF0b:F0<68719476736:=by omega
  have HB0:=lh (show w0.heap.size≤w16.heap.size from HB16.out.chg.size)
  have hOwn16:=HF16.out.out
  rw[hFL1] at hOwn16
  have HOWN16:=lh hOwn16
  have HFL1:=lh hFL1
  clear hOwn16 hkfb hFL1
  go_wp2_with fail
  have hS0:Chg [fb] w16 w16.drew:=(Chg.refl [fb] w16).drew
  refine wp_region_way (Chg [fb] w16) [0,1,2,3,4,5,6,7,8,9,15,16] (Way.line [0,1,2,3,4,5,6,7,8,9,10,11,12,13,14,15,16,17] .done) (by kernel_rfl) (by kernel_rfl) ?_
  simp only[Way.line]
  have hS00:Chg [] w16 w16.drew:=(Chg.refl [] w16).drew
  repeat
   first
    | (refine along_off rfl (by rfl) (by rfl) (fun _ _ _ h=>h) hS0 ?_;simp only[Act.put,Z1,Z2,Z3,Z4,Z5,Z6])
    | (refine along_read (v:=?_) rfl (by rfl) (by rfl) (fun _ _ _ h=>h) hS0 (fun w' hS'=>?_) ?_;rotate_left;(focus (have rd0:=hS'.cell x0 (by first | exact hpf' | exact hsf');have rd1:=hS'.cell q3 (by first | exact hpf' | exact hsf');clear hS';go_simp;try with_reducible rfl));simp only[Act.put,Z1,Z2,Z3,Z4,Z5,Z6])
    | (refine along_skip rfl (by rfl) (by rfl) hS0 ?_;simp only[Act.put,Z1,Z2,Z3,Z4,Z5,Z6])
  refine along_op rfl (by rfl) (by rfl) (fun K hK=>?_)
  go_simp
  refine hK.out _ _ (fun _=>hS0.alloc (.cells #[.slice (some ⟨wb,0,none⟩) wy.length p4,.slice (some ⟨gb,j1,none⟩) (o.length - j1) (p9 - j1)] 25)) ?_
  clear hK K
  try simp only[Act.put,Z1,Z2,Z3,Z4,Z5,Z6]
  refine along_op rfl (by rfl) (by rfl) (fun K hK=>?_)
  go_simp
  refine (concat2_any (.slice (some ⟨wb,0,none⟩) wy.length p4) (.slice (some ⟨gb,j1,none⟩) (o.length - j1) (p9 - j1)) wy (o.drop j1) w16.drew (HW16.out.ints.fresh hS00) ((ints_drop HO16.out hj1o).fresh hS00) hlt2).mono ?_
  rw[HL2.out]
  rintro e w17 ⟨v17,rfl,hr17,hc17⟩
  obtain⟨o17,p17,rfl⟩:=hr17.shape
  have hS1:Chg [fb] w16 w17:=hS0.trans hc17 (by simp)
  have hS01:Chg [] w16 w17:=hS00.trans hc17 (by simp)
  refine hK.out _ _ (fun _=>hS1) ?_
  clear hK K hc17
  try simp only[Act.put,Z1,Z2,Z3,Z4,Z5,Z6]
  refine along_op rfl (by rfl) (by rfl) (fun K hK=>?_)
  go_simp
  refine (border_any sb N _ _ g L2 w17 (HB16.out.fresh hS01).gri hll2 HL2D.out hr17.ints).mono ?_
  rintro e w18 ⟨hb2,rfl,hbb2,hc18⟩
  have hS2:Chg [fb] w16 w18:=hS1.trans hc18 (by simp)
  have hS02:Chg [] w16 w18:=hS01.trans hc18 (by simp)
  refine hK.out _ _ (fun _=>hS2) ?_
  clear hK K
  try simp only[Act.put,Z1,Z2,Z3,Z4,Z5,Z6]
  refine along_op rfl (by rfl) (by rfl) (fun K hK=>?_)
  go_simp
  refine hK.out _ _ (fun _=>hS2.alloc (.cells #[.slice o17 L2.length p17,.slice (some ⟨hb2,0,none⟩) N N] 68)) ?_
  clear hK K
  try simp only[Act.put,Z1,Z2,Z3,Z4,Z5,Z6]
  obtain⟨fb2,fc2,w19,hr19,ho19,hc19,hg19⟩:=run_app elemBorder (w:=w18.alloc (.cells #[.slice o17 L2.length p17,.slice (some ⟨hb2,0,none⟩) N N] 68)) (owns_chg HOWN16.out hS02 (by simp)) (Nat.le_trans HB0.out hS02.size) (cs:=#[.slice o17 L2.length p17,.slice (some ⟨hb2,0,none⟩) N N]) rfl (by intro u hu;simp at hu;rcases hu with rfl | rfl <;> rfl) hF0b (Or.inl rfl) 46
  have HR19:=lh hr19
  have hS3:Chg [fb] w16 w19:=hS2.trans hc19 (fun j hj=>Or.inl (by simpa[Value.ownBlock] using hj))
  clear hr19
  refine along_op rfl (by rfl) (by rfl) (fun K hK=>?_)
  simp only[List.getElem_toArray,List.getElem_cons_zero,List.getElem_cons_succ]
  refine wp_apprun (.tmp 130) (.tmp 139) 46 rfl rfl rfl HR19.out ?_
  refine hK.out _ _ (fun _=>hS3) ?_
  clear hK K
  try simp only[Act.put,List.setIfInBounds_toArray,List.set_cons_zero,List.set_cons_succ]
  repeat
   first
    | (refine along_off rfl (by rfl) (by rfl) (fun _ _ _ h=>h) hS3 ?_;simp only[Act.put,Z1,Z2,Z3,Z4,Z5,Z6])
    | (refine along_read (v:=?_) rfl (by rfl) (by rfl) (fun _ _ _ h=>h) hS3 (fun w' hS'=>?_) ?_;rotate_left;(focus (have rd0:=hS'.cell x0 (by first | exact hpf' | exact hsf');have rd1:=hS'.cell q3 (by first | exact hpf' | exact hsf');clear hS';go_simp;try with_reducible rfl));simp only[Act.put,Z1,Z2,Z3,Z4,Z5,Z6])
    | (refine along_skip rfl (by rfl) (by rfl) hS3 ?_;simp only[Act.put,Z1,Z2,Z3,Z4,Z5,Z6])
  have hb19:=HB16.out.more hS3 (by simpa using hfbl) hsf' hof'
  have s3:=hS3.cell q3 hsf'
  have f3:=hb19.free 3
  refine along_op rfl (by rfl) (by rfl) (fun K hK=>?_)
  go_simp
  refine hK.out _ _ (fun h=>absurd h (Bool.eq_false_iff.1 (by kernel_rfl))) ?_
  clear hK K
  try simp only[Act.put,Z1,Z2,Z3,Z4,Z5,Z6]
  refine along_done ?_
  have hr18:=(hr17.chg hc18 (by simp)).base (B:=w0.heap.size) HB0.out
  have hbb18:=hbb2.base (B:=w0.heap.size) (Nat.le_trans HB0.out hS01.size)
  have hF19:=FacesAt.add (w':=w19) (fb:=fb2) (c:=fc2) (HF16.out.fresh hS02) hr18 hbb18 (by rw[HFL1.out];simpa using ho19) hc19
  rw[HFL1.out] at hF19
  have hksb:∀ j∈[sb],KindAt w19 j 49:=fun j hj=>by rw[List.mem_singleton.1 hj];exact hb19.kind
  have hkfb:∀ j∈[fb],KindAt w16 j 68:=fun j hj=>by rw[List.mem_singleton.1 hj];exact own_kind HF16.out.out rfl
  have hset:Chg [sb] w19 (w19.setCell ⟨sb,3,none⟩ (.slice (some ⟨fb2,0,none⟩) (F0+1) fc2)):=(Chg.refl _ _).setCell (Or.inl (by simp)) _
  have HB20:=lh (hb19.set3 (.slice (some ⟨fb2,0,none⟩) (F0+1) fc2))
  have HF20:=lh (hF19.other hset (fun j hj=>⟨_,hksb j hj,by decide,by decide,by decide⟩))
  have HN20:=lh ((HN16.out.others hS3 (fun j hj=>⟨_,hkfb j hj,by decide,by decide⟩)).others hset (fun j hj=>⟨_,hksb j hj,by decide,by decide⟩))
  have hrow:∀ {B:Nat} {v:Value} {l:List Int},RowAt w16 B v l→RowAt (w19.setCell ⟨sb,3,none⟩ (.slice (some ⟨fb2,0,none⟩) (F0+1) fc2)) B v l:=fun {B} {v} {l} hr=>by
   have h1:=hr.chg hS3 (fun b hb hm=>(hr.kindAt (by simpa using hb)).ne (hkfb b hm) (by decide) rfl)
   exact h1.chg hset (fun b hb hm=>(h1.kindAt (by simpa using hb)).ne (hksb b hm) (by decide) rfl)
  have HE20:=lh (hrow HE16.out)
  have HW20:=lh (hrow HW16.out)
  have hbk:KindAt w16 bb 3:=⟨_,_,HBB16.out⟩
  have hbb19:=hS3.heap HBB16.out (fun q=>hbk.ne (hkfb bb q) (by decide) rfl)
  have hbk19:KindAt w19 bb 3:=⟨_,_,hbb19⟩
  have HBB20:=lh (hset.heap hbb19 (fun q=>hbk19.ne (hksb bb q) (by decide) rfl))
  have HT20:=lh ((HT16.out.trans hS3 (fun j hj=>Or.inl (by rw[List.mem_singleton.1 hj];exact HOWN.out.2.2.2.1 fb rfl))).trans hset (fun j hj=>Or.inl (by rw[List.mem_singleton.1 hj];exact HOWN.out.2.1)))
  have HFAR20:=lh (show FarAt ob (xs1++[.slice o17 L2.length p17,.slice (some ⟨hb2,0,none⟩) N N]) ys1 from HFAR16.out.add (fun k b hk hb=>HNEW.out b (by
   have hz:=hS01.size
   rcases (show k=0∨k=1 by simp at hk;omega) with rfl | rfl
   ·have h1:=(hr17.low b (by
     have:(Value.slice o17 L2.length p17).ownBlock=some b:=hb
     rw[this];simp)).1
    have h2:w16.drew.heap.size=w16.heap.size:=rfl
    omega
   have:hb2=b:=by simpa[Value.ownBlock] using hb
   have h1:=hbb2.lt.1
   omega)))
  have hs20:=Nat.le_trans hs16 (Nat.le_trans hS3.size hset.size)
  clear hset hrow hksb hkfb hF19 hr18 hbb18 hr17 hbb2 hS0 hS00 hS01 hS02 hS1 hS2 hS3 hc18 ho19 hc19 hg19 hb19 s3 f3 hbk hbb19 hbk19 x0 q3 HR19 HB16 HF16 HN16 HE16 HW16 HO16 HT16 HFAR16 HBB16 HOWN16 HB0 hs16 hpf' hsf' hof' hfbl hlt2 hll2 HL2D hj1o hj1c hj1n hj1i hj1j
  generalize w19.setCell ⟨sb,3,none⟩ (.slice (some ⟨fb2,0,none⟩) (F0+1) fc2)=w20 at *
  obtain⟨xs2,hxs2⟩:∃ xs2,xs1++[.slice o17 L2.length p17,.slice (some ⟨hb2,0,none⟩) N N]=xs2:=⟨_,rfl⟩
  obtain⟨F2,hF2⟩:∃ F2,F1++[L2]=F2:=⟨_,rfl⟩
  have HF2:=lh hF2
  rw[hxs2] at HF20 HFAR20
  rw[hF2] at HF20
  have HFL2:=lh (show F2.length=F0+1 by rw[←hF2,List.length_append,HFL1.out];rfl)
  clear hxs2 hF2
  -- the scraps,one by one
  obtain⟨R1,hR1⟩:∃ R1,s.rest.eraseIdx i=R1:=⟨_,rfl⟩
  have HR1':=lh hR1
  have hn1R:n1=R1.length:=by rw[←hR1];exact HN1.out.symm
  rw[hR1] at HN20
  have HRF:=lh (show ∀ r∈R1,(∀ v∈r.ends,0≤v∧v<N)∧r.ends.length≤1024∧r.faces.length≤2050 from fun r hr=>HP.out.rest r (by rw[←hR1] at hr;exact List.mem_of_mem_eraseIdx hr))
  have hn1l:n1≤1024:=by
   have h1:=HP.out.rl
   have h2:=HN1.out
   have h3:=List.length_eraseIdx_le s.rest i
   omega
  clear hR1
  obtain⟨own0,HOW0⟩:∃ own0:List Nat,Hid ((∀ j∈own0,j=rb∨∃ l,l<ys1.length∧(ys1.getD l undef).ownBlock=some j)∧rb∈own0∧∀ l b,l<ys1.length→(ys1.getD l undef).ownBlock=some b→b∈own0):=by
   refine⟨rb :: (List.range ys1.length).flatMap fun l=>(ys1.getD l undef).ownBlock.toList,lh ⟨fun j hj=>?_,by simp,fun l b hl hb=>?_⟩⟩
   ·simp only[List.mem_cons,List.mem_flatMap,List.mem_range] at hj
    rcases hj with r | ⟨l,hl,r⟩
    ·exact Or.inl r
    exact Or.inr ⟨l,hl,by simpa using r⟩
   simp only[List.mem_cons,List.mem_flatMap,List.mem_range]
   exact Or.inr ⟨l,hl,by rw[hb];simp⟩
  have HOWN0:=lh (show ∀ j∈own0,j∈own from fun j hj=>by
   rcases HOW0.out.1 j hj with r | ⟨l,hl,r⟩
   ·rw[r];exact HOWN.out.2.2.2.2.1
   exact HOY1.out l j hl r)
  have HK0:=lh (show ∀ j∈own0,KindAt w20 j 74∨KindAt w20 j 3 from fun j hj=>by
   rcases HOW0.out.1 j hj with r | ⟨l,hl,r⟩
   ·rw[r];exact Or.inl (own_kind HN20.out.out rfl)
   have:=HN20.out.kind hl r
   exact Or.inr this.2.2)
  have HSB0:=lh (show sb ∉ own0 from fun q=>(HK0.out sb q).elim (fun h=>HB20.out.kind.ne h (by decide) rfl) (fun h=>HB20.out.kind.ne h (by decide) rfl))
  have HOB0:=lh (show ob ∉ own0 from fun q=>(HK0.out ob q).elim (fun h=>HB20.out.on.kindAt.ne h (by decide) rfl) (fun h=>HB20.out.on.kindAt.ne h (by decide) rfl))
  have HFB0:=lh (show fb2 ∉ own0 from fun q=>(HK0.out fb2 q).elim (fun h=>(own_kind HF20.out.out rfl).ne h (by decide) rfl) (fun h=>(own_kind HF20.out.out rfl).ne h (by decide) rfl))
  have HXS0:=lh (show ∀ k b,k<xs2.length→(xs2.getD k undef).ownBlock=some b→b ∉ own0 from fun k b hk hb q=>by
   rcases HOW0.out.1 b q with r | ⟨l,hl,r⟩
   ·have h1:=(HF20.out.kinds hk hb).2.2
    rw[r] at h1
    have h2:KindAt w20 rb 74:=own_kind HN20.out.out rfl
    exact h1.elim (fun h=>h2.ne h (by decide) rfl) (fun h=>h2.ne h (by decide) rfl)
   exact HFAR20.out.y k l b hk hl hb r)
  have HEB0:=lh (show ∀ b,(Value.slice o0 c.edges.length p0).ownBlock=some b→b ∉ own0 from fun b hb q=>by
   rcases HOW0.out.1 b q with r | ⟨l,hl,r⟩
   ·have h2:KindAt w20 rb 74:=own_kind HN20.out.out rfl
    have h3:=HE20.out.kindAt hb
    rw[r] at h3
    exact h2.ne h3 (by decide) rfl
   exact HAP0.out l b hl r hb)
  have HWB0:=lh (show wb ∉ own0 from fun q=>by
   have h1:=(HOWN.out.1 wb (HOWN0.out wb q)).2
   have h2:=HPB.out
   have h3:=HWLO.out
   omega)
  have HBB0:=lh (show bb ∉ own0 from fun q=>by
   have h1:=(HOWN.out.1 bb (HOWN0.out bb q)).2
   have h2:=HPB.out
   have h3:=HBLO.out
   omega)
  obtain⟨T,hT⟩:∃ T,Plain.refit g F2 (f:Int) (F0:Int)=T:=⟨_,rfl⟩
  have HTR:=lh hT
  have HHIT:=lh (show ∀ r:Plain.Scrap,(f:Int)∈r.faces→T r=⟨r.edges,r.ends,r.faces.erase (f:Int)++Plain.fitF g F2 r.ends [(f:Int),(F0:Int)]⟩ from fun r h=>by rw[←hT];exact refit_hit h)
  have HMISS:=lh (show ∀ r:Plain.Scrap,(f:Int) ∉ r.faces→T r=r from fun r h=>by rw[←hT];exact refit_miss h)
  have HLEN:=lh (show ∀ j,j≤n1→(mixS T R1 j).length=n1 from fun j hj=>by rw[mixS_len (by omega)];exact hn1R.symm)
  have HN1R:=lh hn1R
  have HBL20:=lh (show wb<w20.heap.size∧bb<w20.heap.size from⟨(HW20.out.low wb (by simp[Value.ownBlock])).2,(show KindAt w20 bb 3 from⟨_,_,HBB20.out⟩).lt⟩)
  have hys1l:=HN20.out.cells
  clear hT hn1R
  have q4:=HB20.out.q4
  obtain⟨x0,-,-,-⟩:=HBX.out _ HT20.out
  go_wp2_with fail
  clear x0 q4
  go_loopw [15,16,17,148] (fun _ _ _ cj wx=>∃ j:Nat,j≤n1∧cj=.int .i64 j∧∃ zs,Nest wx w0.heap.size 74 3 (.slice (some ⟨rb,0,none⟩) n1 rc) n1 zs (scr3 (mixS T R1 j))∧Hid (∀ l b,l<zs.length→(zs.getD l undef).ownBlock=some b→b∈own0∨w20.heap.size≤b)∧Hid (∀ l,3*j≤l→zs.getD l undef=ys1.getD l undef)∧Chg own0 w20 wx) (fun _ _ _ cj _=>n1 - (intOf cj).toNat)
  case atStart=>exact⟨0,Nat.zero_le _,rfl,ys1,by rw[mixS_zero];exact HN20.out,lh (fun l b hl hb=>Or.inl (HOW0.out.2.2 l b hl hb)),lh (fun _ _=>rfl),Chg.refl _ _⟩
  case round =>
   obtain⟨j,hj,rfl,zs,hnz,HZL,HZS,hcz⟩:=hrel
   have HNZ:=lh hnz
   have HCZ:=lh hcz
   have hczT:=HT20.out.trans hcz (fun k hk=>Or.inl (HOWN0.out k hk))
   have HTZ:=lh hczT
   have hbz:=HB20.out.more hcz (fun k hk=>(HOWN.out.1 k (HOWN0.out k hk)).1) HSB0.out HOB0.out
   have HBZ:=lh hbz
   have HFZ:=lh (HF20.out.chg hcz (fun b hb=>by
    have e:fb2=b:=by simpa[Value.ownBlock] using hb
    rw[←e];exact HFB0.out) HXS0.out)
   obtain⟨x0,-,-,-⟩:=HBX.out _ hczT
   have q4:=hbz.q4
   have hzl:=hnz.cells
   by_cases hlt:j<n1
   ·obtain⟨r,hr⟩:∃ r,R1.getD j ⟨[],[],[]⟩=r:=⟨_,rfl⟩
    have hjR:j<R1.length:=by have:=HN1R.out;omega
    have hrm:r∈R1:=by rw[←hr];simp[List.getD,hjR]
    obtain⟨t0,t1,t2⟩:=scr3_at (R:=mixS T R1 j) (j:=j) (by rw[HLEN.out j hj];exact hlt)
    rw[mixS_at hjR,hr] at t0 t1 t2
    have k1:=hnz.cell (k:=3*j+1) (by omega)
    have k2:=hnz.cell (k:=3*j+2) (by omega)
    have m1:=hnz.row t1
    have m2:=hnz.row t2
    rw[Nat.mul_comm 3 j] at k1 k2 m1 m2 t2
    obtain⟨u1,hu1⟩:∃ u,zs.getD (j*3+1) undef=u:=⟨_,rfl⟩
    obtain⟨u2,hu2⟩:∃ u,zs.getD (j*3+2) undef=u:=⟨_,rfl⟩
    rw[hu1] at k1 m1
    rw[hu2] at k2 m2
    have hap12:∀ b,u1.ownBlock=some b→u2.ownBlock≠some b:=fun b h1 h2=>by
     rcases hnz.apart (j*3+1) (j*3+2) (by omega) (by omega) (by omega) with q | q
     ·rw[hu1,h1] at q;cases q
     rw[hu1,hu2,h1,h2] at q;exact q rfl
    have hu2l:∀ b,u2.ownBlock=some b→b∈own0:=fun b hb=>by
     rw[←hu2,HZS.out _ (by omega)] at hb
     exact HOW0.out.2.2 _ b (by omega) hb
    obtain⟨o1,c1,rfl⟩:=m1.shape
    obtain⟨o2,c2,rfl⟩:=m2.shape
    have HM1:=lh m1
    have HM2:=lh m2
    have HT2:=lh t2
    have HU2:=lh hu2
    have HAP12:=lh hap12
    have HU2L:=lh hu2l
    have HRR:=lh (HRF.out r hrm)
    have hrfl:r.faces.length<1000000000:=by have:=HRR.out.2.2;omega
    have hji:(j:Int)<(n1:Int):=by omega
    have HJR:=lh hjR
    have HRJ2:=lh hr
    clear hr hjR hrm t0 t1 t2 hu1 hu2 hap12 hu2l m1 hnz hcz hczT hbz
    go_wp2_with fail
    refine (idxI_any _ r.faces (f:Int) _ _ hrfl m2).mono ?_
    rintro e w22 ⟨rfl,hc22⟩
    by_cases hfm:(f:Int)∈r.faces
    ·obtain⟨e1,e2,e3⟩:=Plain.ixI_hit hfm
     rw[e1]
     obtain⟨kx,hkx⟩:∃ kx,r.faces.idxOf (f:Int)=kx:=⟨_,rfl⟩
     rw[hkx] at e2 e3 ⊢
     obtain⟨gg,eg,-⟩:=m2.some (by omega)
     subst eg
     have hggo:=HU2L.out gg rfl
     have hgk:=m2.kindAt (b:=gg) rfl
     have hpg':pb ∉ [gg]:=by
      rw[List.mem_singleton]
      intro q
      have h1:=(HOWN.out.1 gg (HOWN0.out gg hggo)).2
      have h2:=HPB.out
      omega
     have hrg':rb ∉ [gg]:=by
      rw[List.mem_singleton]
      exact (own_kind HNZ.out.out rfl).ne hgk (by decide)
     have hsg':sb ∉ [gg]:=by
      rw[List.mem_singleton]
      exact HBZ.out.kind.ne hgk (by decide)
     have hog':ob ∉ [gg]:=by
      rw[List.mem_singleton]
      exact HBZ.out.on.kindAt.ne hgk (by decide)
     have hbg':bb ∉ [gg]:=by
      rw[List.mem_singleton]
      exact fun q=>HBB0.out (q ▸ hggo)
     have wk:IntKind.i64.wrap ((kx:Int)+1)=(kx:Int)+1:=IntWalk.i64_in _ (by omega)
     have hkp:(0:Int)≤(kx:Int):=by omega
     obtain⟨E1,hE1⟩:∃ E1,r.faces.eraseIdx kx=E1:=⟨_,rfl⟩
     have HE1:=lh hE1
     have hE1l:E1.length≤2050:=by
      have:=List.length_eraseIdx_le r.faces kx
      have:=HRR.out.2.2
      rw[←hE1]
      omega
     obtain⟨FT,hFT⟩:∃ FT,Plain.fitF g F2 r.ends [(f:Int),(F0:Int)]=FT:=⟨_,rfl⟩
     have HFT:=lh hFT
     have hFTl:FT.length≤2:=by
      rw[←hFT]
      unfold Plain.fitF
      exact List.length_filter_le _ _
     obtain⟨L25,hL25⟩:∃ L25,E1++FT=L25:=⟨_,rfl⟩
     have HL25:=lh hL25
     have hadd:E1.length+FT.length<4294967296:=by omega
     have HTV:=lh (show T r=⟨r.edges,r.ends,L25⟩ by rw[HHIT.out r hfm,←hL25,←hFT,←hE1,e3])
     have hfib:∀ x∈[(f:Int),(F0:Int)],0≤x∧x<(F2.length:Int):=fun x hx=>by
      have h1:=HFL2.out
      rcases List.mem_cons.1 hx with q | q
      ·rw[q];omega
      rw[List.mem_singleton.1 q];omega
     have HFIB:=lh hfib
     have hF2l:F2.length<1000000:=by have:=HFL2.out;omega
     have hrel:r.ends.length<1000000:=by have:=HRR.out.2.1;omega
     have hIF:I64 (f:Int):=I64.mk (by omega) (by omega)
     have hIF0:I64 (F0:Int):=I64.mk (by omega) (by omega)
     have y0:=hc22.cell x0 (by simp)
     have y1:=hc22.cell k1 (by simp)
     have y2:=hc22.cell k2 (by simp)
     have HN22:=lh (HNZ.out.fresh hc22)
     have HB22:=lh (HBZ.out.fresh hc22)
     have HF22:=lh (HFZ.out.fresh hc22)
     have HM122:=lh (HM1.out.chg hc22 (by simp))
     have HM222:=lh (m2.chg hc22 (by simp))
     have HC22:=lh (HCZ.out.trans hc22 (by simp))
     clear hkx e1 e3 hE1 hFT hL25 hfib hc22 k1 k2 m2 x0 q4 hgk hfm
     go_wp2_with fail
     have hS0:Chg [gg] w22 w22.drew:=(Chg.refl [gg] w22).drew
     refine wp_region_way (Chg [gg] w22) [0,1,2,3,4,5,6,7,9,10,11,12,13,14,17,18] (Way.line [0,1,2,3,4,5,6,7,9,10,11,12,13,14,8,15,16,17,18,19] .done) (by kernel_rfl) (by kernel_rfl) ?_
     simp only[Way.line]
     repeat
      first
       | (refine along_off rfl (by rfl) (by rfl) (fun _ _ _ h=>h) hS0 ?_;simp only[Act.put,Z1,Z2,Z3,Z4,Z5,Z6])
       | (refine along_read (v:=?_) rfl (by rfl) (by rfl) (fun _ _ _ h=>h) hS0 (fun w' hS'=>?_) ?_;rotate_left;(focus (have rd0:=hS'.cell y0 (by first | exact hpg' | exact hrg');have rd1:=hS'.cell y1 (by first | exact hpg' | exact hrg');have rd2:=hS'.cell y2 (by first | exact hpg' | exact hrg');clear hS';go_simp;try with_reducible rfl));simp only[Act.put,Z1,Z2,Z3,Z4,Z5,Z6])
       | (refine along_skip rfl (by rfl) (by rfl) hS0 ?_;simp only[Act.put,Z1,Z2,Z3,Z4,Z5,Z6])
     refine along_op rfl (by rfl) (by rfl) (fun K hK=>?_)
     go_simp
     refine (delI_any gg c2 kx w0.heap.size r.faces w22.drew (HM222.out.chg (Chg.refl [] w22).drew (by simp)) e2).mono ?_
     rw[HE1.out]
     rintro e w23 ⟨rfl,hr23,hc23⟩
     have hS1:Chg [gg] w22 w23:=hS0.trans hc23 (fun k hk=>Or.inl hk)
     refine hK.out _ _ (fun _=>hS1) ?_
     clear hK K hS0 hc23
     try simp only[Act.put,Z1,Z2,Z3,Z4,Z5,Z6]
     repeat
      first
       | (refine along_off rfl (by rfl) (by rfl) (fun _ _ _ h=>h) hS1 ?_;simp only[Act.put,Z1,Z2,Z3,Z4,Z5,Z6])
       | (refine along_read (v:=?_) rfl (by rfl) (by rfl) (fun _ _ _ h=>h) hS1 (fun w' hS'=>?_) ?_;rotate_left;(focus (have rd0:=hS'.cell y0 (by first | exact hpg' | exact hrg');have rd1:=hS'.cell y1 (by first | exact hpg' | exact hrg');have rd2:=hS'.cell y2 (by first | exact hpg' | exact hrg');clear hS';go_simp;try with_reducible rfl));simp only[Act.put,Z1,Z2,Z3,Z4,Z5,Z6])
       | (refine along_skip rfl (by rfl) (by rfl) hS1 ?_;simp only[Act.put,Z1,Z2,Z3,Z4,Z5,Z6])
     have hb23:=HB22.out.more hS1 (by simpa using (HOWN.out.1 gg (HOWN0.out gg hggo)).1) hsg' hog'
     have hf23:=HF22.out.chg hS1 (fun b hb hm=>by
      have e:fb2=b:=by simpa[Value.ownBlock] using hb
      rw[List.mem_singleton] at hm
      exact HFB0.out (by rw[e,hm];exact hggo)) (fun k b hk hb hm=>by
      rw[List.mem_singleton] at hm
      exact HXS0.out k b hk hb (by rw[hm];exact hggo))
     have hm23:=HM122.out.chg hS1 (fun b hb hm=>by
      rw[List.mem_singleton] at hm
      exact HAP12.out b (by simpa using hb) (by rw[hm];rfl))
     have hbb23:=hS1.heap (HC22.out.heap HBB20.out HBB0.out) hbg'
     refine along_op rfl (by rfl) (by rfl) (fun K hK=>?_)
     go_simp
     refine (fitting_any sb N w0.heap.size _ _ _ g F2 xs2 r.ends [(f:Int),(F0:Int)] w23 hb23.q3 hf23 hrel (by simp) HRR.out.1 HFIB.out hF2l hm23.ints (lit2_at hbb23 hIF hIF0)).mono ?_
     rw[HFT.out]
     rintro e w24 ⟨v24,rfl,hr24,hc24⟩
     obtain⟨o24,p24,rfl⟩:=hr24.shape
     have hS2:Chg [gg] w22 w24:=hS1.trans hc24 (by simp)
     refine hK.out _ _ (fun _=>hS2) ?_
     clear hK K
     try simp only[Act.put,Z1,Z2,Z3,Z4,Z5,Z6]
     refine along_op rfl (by rfl) (by rfl) (fun K hK=>?_)
     simp only[List.getElem_toArray,List.getElem_cons_zero,List.getElem_cons_succ]
     refine wp_cat (v:=.slice (some ⟨gg,0,none⟩) E1.length c2) (u:=.slice o24 FT.length p24) (.tmp 173) (.tmp 180) rfl rfl rfl (hr23.chg hc24 (by simp)) hr24 (hb23.fresh hc24).chg.size hadd (fun v25 w25 r1 r2 r3=>?_)
     have hS3:Chg [gg] w22 w25:=hS2.trans r2 (fun k hk=>Or.inl (by simpa[foot,Value.ownBlock] using hk))
     rw[HL25.out] at r1
     obtain⟨o25,p25,rfl⟩:=r1.shape
     refine hK.out _ _ (fun _=>hS3) ?_
     clear hK K
     try simp only[Act.put,List.setIfInBounds_toArray,List.set_cons_zero,List.set_cons_succ]
     repeat
      first
       | (refine along_off rfl (by rfl) (by rfl) (fun _ _ _ h=>h) hS3 ?_;simp only[Act.put,Z1,Z2,Z3,Z4,Z5,Z6])
       | (refine along_read (v:=?_) rfl (by rfl) (by rfl) (fun _ _ _ h=>h) hS3 (fun w' hS'=>?_) ?_;rotate_left;(focus (have rd0:=hS'.cell y0 (by first | exact hpg' | exact hrg');have rd1:=hS'.cell y1 (by first | exact hpg' | exact hrg');have rd2:=hS'.cell y2 (by first | exact hpg' | exact hrg');clear hS';go_simp;try with_reducible rfl));simp only[Act.put,Z1,Z2,Z3,Z4,Z5,Z6])
       | (refine along_skip rfl (by rfl) (by rfl) hS3 ?_;simp only[Act.put,Z1,Z2,Z3,Z4,Z5,Z6])
     have z2:=hS3.cell y2 hrg'
     obtain⟨rcs,hrh⟩:=own_heap HN22.out.out
     have z3:=free_at (hS3.heap hrh hrg') (j*3+2)
     refine along_op rfl (by rfl) (by rfl) (fun K hK=>?_)
     go_simp
     refine hK.out _ _ (fun h=>absurd h (Bool.eq_false_iff.1 (by kernel_rfl))) ?_
     clear hK K
     try simp only[Act.put,Z1,Z2,Z3,Z4,Z5,Z6]
     refine along_done ?_
     have hzq:j*3+2<zs.length:=by omega
     have hnp:=HN22.out.put (q:=j*3+2) (v:=.slice o25 L25.length p25) (by decide) hzq HT2.out r1 (by rw[HU2.out];exact hS3) (fun b hb=>by
      rw[HU2.out]
      rcases r3 b hb with q | q
      ·exact Or.inl q
      exact Or.inr (Nat.le_trans hS2.size q))
     have hmix:(scr3 (mixS T R1 j)).set (j*3+2) (.row L25)=scr3 (mixS T R1 (j+1)):=by
      have h1:=HLEN.out j hj
      have h2:=mixS_at (t:=T) HJR.out ⟨[],[],[]⟩
      rw[mixS_step HJR.out ⟨[],[],[]⟩,HRJ2.out,HTV.out]
      exact scr3_set (c:=⟨r.edges,r.ends,L25⟩) (by omega) (by rw[h2,HRJ2.out]) (by rw[h2,HRJ2.out])
     rw[hmix] at hnp
     have HNP:=lh hnp
     have HZL2:=lh (show ∀ l b,l<(zs.set (j*3+2) (.slice o25 L25.length p25)).length→((zs.set (j*3+2) (.slice o25 L25.length p25)).getD l undef).ownBlock=some b→b∈own0∨w20.heap.size≤b from fun l b hl hb=>by
      rw[List.length_set] at hl
      rw[getD_set' _ _ _ _ _ hzq] at hb
      by_cases q:l=j*3+2
      ·rw[if_pos q] at hb
       rcases r3 b (by rw[show foot (.slice o25 L25.length p25)=(Value.slice o25 L25.length p25).ownBlock.toList from rfl,hb];simp) with t | t
       ·left
        have:b=gg:=by simpa[foot,Value.ownBlock] using t
        rw[this];exact hggo
       right
       have h1:=HC22.out.size
       have h2:=hS2.size
       omega
      rw[if_neg q] at hb
      exact HZL.out l b hl hb)
     have HZS2:=lh (show ∀ l,3*(j+1)≤l→(zs.set (j*3+2) (.slice o25 L25.length p25)).getD l undef=ys1.getD l undef from fun l hl=>by
      rw[getD_set' _ _ _ _ _ hzq,if_neg (by omega)]
      exact HZS.out l (by omega))
     have HCF:=lh (show Chg own0 w20 (w25.setCell ⟨rb,j*3+2,none⟩ (.slice o25 L25.length p25)) from ((HC22.out.trans hS3 (fun k hk=>Or.inl (by rw[List.mem_singleton.1 hk];exact hggo))).setCell (p:=⟨rb,j*3+2,none⟩) (Or.inl HOW0.out.2.1) _))
     clear hnp hmix hS1 hS2 hS3 r1 r2 r3 hr23 hr24 hc24 hb23 hf23 hm23 hbb23 hrh z2 z3 y0 y1 y2 hzq
     generalize w25.setCell ⟨rb,j*3+2,none⟩ (.slice o25 L25.length p25)=w26 at *
     generalize zs.set (j*3+2) (.slice o25 L25.length p25)=zs2 at *
     go_wp2
     go_roundw
     case rel=>exact⟨j+1,by omega,by go_num,zs2,HNP.out,HZL2,HZS2,HCF.out⟩
     case measure=>simp[intOf];omega
    have e1:Plain.ixI r.faces (f:Int) = -1:=if_neg hfm
    rw[e1]
    have HSAME:=lh (show mixS T R1 (j+1)=mixS T R1 j from mixS_same HJR.out ⟨[],[],[]⟩ (by rw[HRJ2.out];exact HMISS.out r hfm))
    have HN22:=lh (HNZ.out.fresh hc22)
    have HC22:=lh (HCZ.out.trans hc22 (by simp))
    clear hc22 k1 k2 m2 x0 q4
    go_wp2
    go_roundw
    case rel=>exact⟨j+1,by omega,by go_num,zs,by rw[HSAME.out];exact HN22.out,HZL,lh (fun l hl=>HZS.out l (by omega)),HC22.out⟩
    case measure=>simp[intOf];omega
   have e:j=n1:=by omega
   subst e
   have HNR:=lh (show mixS T R1 j=R1.map T by rw[HN1R.out];exact mixS_all T R1)
   have hez:=HE20.out.chg HCZ.out (fun b hb hm=>HEB0.out b (by simpa using hb) hm)
   have hwz:=HW20.out.chg HCZ.out (fun b hb hm=>by
    have e:b=wb:=by simpa[Value.ownBlock] using hb
    exact HWB0.out (by rw[←e];exact hm))
   have hbbz:=HCZ.out.heap HBB20.out HBB0.out
   have HEZ:=lh hez
   have HWZ:=lh hwz
   have HBBZ:=lh hbbz
   obtain⟨W,hW⟩:∃ W,Plain.without c.edges wy=W:=⟨_,rfl⟩
   have HWW:=lh hW
   have hWl:W.length≤1024:=by
    rw[←hW]
    exact Nat.le_trans (List.length_filter_le _ _) HP.out.edl
   have HWD2:=lh (show ∀ e∈W,0≤e∧e<g.e.length from fun e he=>by
    rw[←hW] at he
    exact HP.out.edges e (Plain.mem_without.1 he).1)
   obtain⟨SC,hSC⟩:∃ SC,Plain.scraps g (Plain.onTo g s.on wy) F2 W [(f:Int),(F0:Int)]=SC:=⟨_,rfl⟩
   have HSC:=lh hSC
   have hscl:SC.length≤1024:=by
    rw[←hSC]
    exact Nat.le_trans (Plain.scraps_le (by rw[←hW];exact HP.out.part.en.filter _)) hWl
   have HED:=lh (show ∀ e∈c.edges,0≤e∧e<1000000 from fun e he=>by
    have h1:=HP.out.edges e he
    have h2:=HSM.out
    omega)
   have hfib:∀ x∈[(f:Int),(F0:Int)],0≤x∧x<(F2.length:Int):=fun x hx=>by
    have h1:=HFL2.out
    rcases List.mem_cons.1 hx with q | q
    ·rw[q];omega
    rw[List.mem_singleton.1 q];omega
   have HFIB:=lh hfib
   have hF2l:F2.length<1000000:=by have:=HFL2.out;omega
   have hIF:I64 (f:Int):=I64.mk (by omega) (by omega)
   have hIF0:I64 (F0:Int):=I64.mk (by omega) (by omega)
   have hedl2:c.edges.length≤1000000:=by omega
   have hrzl:rb<wr.heap.size:=(own_kind HNZ.out.out rfl).lt
   have hrzk:KindAt wr rb 74:=own_kind HNZ.out.out rfl
   have hpr':pb ∉ [rb]:=by
    rw[List.mem_singleton]
    intro q
    have h1:=(HOWN.out.1 rb HOWN.out.2.2.2.2.1).2
    have h2:=HPB.out
    omega
   have hpr2':pb+1 ∉ [rb]:=by
    rw[List.mem_singleton]
    intro q
    have h1:=(HOWN.out.1 rb HOWN.out.2.2.2.2.1).2
    have h2:=HPB.out
    omega
   have hsr':sb ∉ [rb]:=by
    rw[List.mem_singleton]
    exact HBZ.out.kind.ne hrzk (by decide)
   have hor':ob ∉ [rb]:=by
    rw[List.mem_singleton]
    exact HBZ.out.on.kindAt.ne hrzk (by decide)
   have hfr':fb2 ∉ [rb]:=by
    rw[List.mem_singleton]
    exact (own_kind HFZ.out.out rfl).ne hrzk (by decide)
   have hrbl2:=(HOWN.out.1 rb HOWN.out.2.2.2.2.1).1
   have hsum:j+SC.length<68719476736:=by omega
   obtain⟨x0,x1,-,-⟩:=HBX.out _ HTZ.out
   clear hW hSC hfib hez hwz hbbz hrzk
   go_wp2_with fail
   have hS0:Chg [rb] wr wr.drew:=(Chg.refl [rb] wr).drew
   refine wp_region_way (Chg [rb] wr) [0,1,2,3,4,5,6,7,8,10,13,14] (Way.line [0,1,2,3,4,5,6,7,8,10,9,11,12,13,14,15] .done) (by kernel_rfl) (by kernel_rfl) ?_
   simp only[Way.line]
   have hS00:Chg [] wr wr.drew:=(Chg.refl [] wr).drew
   repeat
    first
     | (refine along_off rfl (by rfl) (by rfl) (fun _ _ _ h=>h) hS0 ?_;simp only[Act.put,Z1,Z2,Z3,Z4,Z5,Z6])
     | (refine along_read (v:=?_) rfl (by rfl) (by rfl) (fun _ _ _ h=>h) hS0 (fun w' hS'=>?_) ?_;rotate_left;(focus (have rd0:=hS'.cell x0 (by first | exact hpr' | exact hpr2' | exact hsr');have rd1:=hS'.cell x1 (by first | exact hpr' | exact hpr2' | exact hsr');have rd2:=hS'.cell q4 (by first | exact hpr' | exact hpr2' | exact hsr');clear hS';go_simp;try with_reducible rfl));simp only[Act.put,Z1,Z2,Z3,Z4,Z5,Z6])
     | (refine along_skip rfl (by rfl) (by rfl) hS0 ?_;simp only[Act.put,Z1,Z2,Z3,Z4,Z5,Z6])
   refine along_op rfl (by rfl) (by rfl) (fun K hK=>?_)
   go_simp
   refine (without_any _ _ c.edges wy wr.drew hedl2 hwl6 HED.out (HEZ.out.chg hS00 (by simp)).ints (HWZ.out.chg hS00 (by simp)).ints).mono ?_
   rw[HWW.out]
   rintro e w31 ⟨v31,rfl,hr31,hc31⟩
   obtain⟨o31,p31,rfl⟩:=hr31.shape
   have hS1:Chg [rb] wr w31:=hS0.trans hc31 (by simp)
   have hS01:Chg [] wr w31:=hS00.trans hc31 (by simp)
   refine hK.out _ _ (fun _=>hS1) ?_
   clear hK K hS0 hS00 hc31
   try simp only[Act.put,Z1,Z2,Z3,Z4,Z5,Z6]
   repeat
    first
     | (refine along_off rfl (by rfl) (by rfl) (fun _ _ _ h=>h) hS1 ?_;simp only[Act.put,Z1,Z2,Z3,Z4,Z5,Z6])
     | (refine along_read (v:=?_) rfl (by rfl) (by rfl) (fun _ _ _ h=>h) hS1 (fun w' hS'=>?_) ?_;rotate_left;(focus (have rd0:=hS'.cell x0 (by first | exact hpr' | exact hpr2' | exact hsr');have rd1:=hS'.cell x1 (by first | exact hpr' | exact hpr2' | exact hsr');have rd2:=hS'.cell q4 (by first | exact hpr' | exact hpr2' | exact hsr');clear hS';go_simp;try with_reducible rfl));simp only[Act.put,Z1,Z2,Z3,Z4,Z5,Z6])
     | (refine along_skip rfl (by rfl) (by rfl) hS1 ?_;simp only[Act.put,Z1,Z2,Z3,Z4,Z5,Z6])
   have hb31:=HBZ.out.fresh hS01
   refine along_op rfl (by rfl) (by rfl) (fun K hK=>?_)
   go_simp
   refine (scraps_any sb ob N w0.heap.size _ _ _ _ g (Plain.onTo g s.on wy) F2 xs2 W [(f:Int),(F0:Int)] w31 hb31.gri hb31.q2 hb31.on hb31.q3 (HFZ.out.fresh hS01) hF2l hWl HWD2.out hr31.ints (by simp) HFIB.out (lit2_at (hS01.heap HBBZ.out (by simp)) hIF hIF0)).mono ?_
   rw[HSC.out]
   rintro e w32 ⟨v32,ys3,rfl,hn32,hc32⟩
   obtain⟨o32,p32,rfl⟩:=hn32.shape
   have hS2:Chg [rb] wr w32:=hS1.trans hc32 (by simp)
   have hS02:Chg [] wr w32:=hS01.trans hc32 (by simp)
   refine hK.out _ _ (fun _=>hS2) ?_
   clear hK K
   try simp only[Act.put,Z1,Z2,Z3,Z4,Z5,Z6]
   have hnz32:=HNZ.out.fresh hS02
   refine along_op rfl (by rfl) (by rfl) (fun K hK=>?_)
   simp only[List.getElem_toArray,List.getElem_cons_zero,List.getElem_cons_succ]
   refine wp_spread elemScrap (v:=.slice (some ⟨rb,0,none⟩) j rc) (u:=.slice o32 SC.length p32) (.tmp 189) (.tmp 196) rfl rfl rfl hnz32.out hn32.out (hb31.fresh hc32).chg.size (fun u hu=>by
    obtain⟨k,hk,rfl⟩:=List.mem_iff_getElem.1 hu
    obtain⟨cc,-,hcc⟩:=hn32.fit hk
    have:=hcc.one
    simpa[List.getD,hk] using this) hsum (fun v33 w33 r1 r2 r3=>?_)
   have hS3:Chg [rb] wr w33:=hS2.trans r2 (fun k hk=>Or.inl (by simpa[Value.ownBlock] using hk))
   obtain⟨o33,p33,rfl⟩:=owns_shape r1
   refine hK.out _ _ (fun _=>hS3) ?_
   clear hK K
   try simp only[Act.put,List.setIfInBounds_toArray,List.set_cons_zero,List.set_cons_succ]
   repeat
    first
     | (refine along_off rfl (by rfl) (by rfl) (fun _ _ _ h=>h) hS3 ?_;simp only[Act.put,Z1,Z2,Z3,Z4,Z5,Z6])
     | (refine along_read (v:=?_) rfl (by rfl) (by rfl) (fun _ _ _ h=>h) hS3 (fun w' hS'=>?_) ?_;rotate_left;(focus (have rd0:=hS'.cell x0 (by first | exact hpr' | exact hpr2' | exact hsr');have rd1:=hS'.cell x1 (by first | exact hpr' | exact hpr2' | exact hsr');have rd2:=hS'.cell q4 (by first | exact hpr' | exact hpr2' | exact hsr');clear hS';go_simp;try with_reducible rfl));simp only[Act.put,Z1,Z2,Z3,Z4,Z5,Z6])
     | (refine along_skip rfl (by rfl) (by rfl) hS3 ?_;simp only[Act.put,Z1,Z2,Z3,Z4,Z5,Z6])
   have hb33:=HBZ.out.more hS3 (by simpa using hrbl2) hsr' hor'
   have s4:=hb33.q4
   have f4:=hb33.free 4
   refine along_op rfl (by rfl) (by rfl) (fun K hK=>?_)
   go_simp
   refine hK.out _ _ (fun h=>absurd h (Bool.eq_false_iff.1 (by kernel_rfl))) ?_
   clear hK K
   try simp only[Act.put,Z1,Z2,Z3,Z4,Z5,Z6]
   refine along_done ?_
   have hn32b:=hn32.base (B:=w0.heap.size) hb31.chg.size
   have hapx:∀ k l b,k<zs.length→l<ys3.length→(zs.getD k undef).ownBlock=some b→(ys3.getD l undef).ownBlock≠some b:=fun k l b hk hl hb hc=>by
    have h1:=(HNZ.out.kind hk hb).2.1
    have h2:=(hn32.kind hl hc).1
    have h3:=hS01.size
    omega
   have hcat:=hnz32.cat hn32b (by decide) hapx r1 r2
   have hset:Chg [sb] w33 (w33.setCell ⟨sb,4,none⟩ (.slice o33 (j+SC.length) p33)):=(Chg.refl _ _).setCell (Or.inl (by simp)) _
   have hksb:∀ k∈[sb],KindAt w33 k 49:=fun k hk=>by rw[List.mem_singleton.1 hk];exact hb33.kind
   have HBF:=lh (hb33.set4 (.slice o33 (j+SC.length) p33))
   have hf33:=HFZ.out.chg hS3 (fun b hb hm=>by
    have e:fb2=b:=by simpa[Value.ownBlock] using hb
    exact hfr' (by rw[e];exact hm)) (fun k b hk hb hm=>by
    rw[List.mem_singleton] at hm
    exact HXS0.out k b hk hb (by rw[hm];exact HOW0.out.2.1))
   have HFF:=lh (hf33.other hset (fun k hk=>⟨_,hksb k hk,by decide,by decide,by decide⟩))
   have HNF:=lh (hcat.others hset (fun k hk=>⟨_,hksb k hk,by decide,by decide⟩))
   have HFAF:=lh (show FarAt ob xs2 (zs++ys3) from⟨HFAR20.out.o,fun k l b hk hl hb hc=>by
    rw[List.length_append] at hl
    have hbl:=(HF20.out.kinds hk hb).2.1
    by_cases q:l<zs.length
    ·rw[getD_left q] at hc
     rcases HZL.out l b q hc with t | t
     ·exact HXS0.out k b hk hb t
     omega
    rw[getD_right (by omega)] at hc
    have h2:=(hn32.kind (by omega) hc).1
    have h3:=hS01.size
    have h4:=HCZ.out.size
    omega⟩)
   have HEND:=lh (show s.put g b.v i=⟨Plain.onTo g s.on wy,F2,mixS T R1 j++SC⟩ by
    rw[HPUT.out k1 j1 o HK1.out HO.out HJ1.out,HR1'.out,HF0.out,HL1.out,HL2.out,HF1.out,HF2.out,HTR.out,HWW.out,HSC.out,HNR.out])
   have hlen:(mixS T R1 j++SC).length=j+SC.length:=by rw[List.length_append,HLEN.out j hj]
   have hs3:scr3 (mixS T R1 j)++scr3 SC=scr3 (mixS T R1 j++SC):=by simp[scr3]
   clear hcat hset hksb hf33 hb33 hb31 hnz32 hn32 hn32b hapx r1 r2 r3 hS01 hS02 hS1 hS2 hS3 hc32 hr31 s4 f4 x0 x1 q4
   generalize w33.setCell ⟨sb,4,none⟩ (.slice o33 (j+SC.length) p33)=w34 at *
   go_wp2
   refine bodyPost_end (v:=.tuple #[]) (by simp[results,Try.results16,go_sem]) rfl ?_
   refine⟨rfl,.slice (some ⟨fb2,0,none⟩) (F0+1) fc2,.slice o33 (j+SC.length) p33,xs2,zs++ys3,?_⟩
   rw[HEND.out]
   refine⟨HBF.out,HFF.out,?_,HFAF.out⟩
   show Nest w34 w0.heap.size 74 3 _ (mixS T R1 j++SC).length _ (scr3 (mixS T R1 j++SC))
   rw[hlen,←hs3]
   exact HNF.out
end Go.Proofs.Ytbkjljffnkdcjaa
