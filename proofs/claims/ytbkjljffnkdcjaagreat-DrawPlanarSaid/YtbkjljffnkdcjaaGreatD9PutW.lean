/- draw.put: contract. Conditions: a sketch of the call's own that keeps to what sketches keep to; a scrap of it that fits in a sX. -/
import Derived.Test.YtbkjljffnkdcjaaGreatD9PutP
open List renaming mem_singleton→Qa,length_append→Qe,length_drop→Qg,mem_append→Qh,getElem_cons_zero→Qj,getElem_cons_succ→Qk,mem_cons→Ql,getElem_toArray→Qm,setIfInBounds_toArray→Qn,length_take→Qo,mem_flatMap→Qp,mem_of_mem_drop→Qq,mem_of_mem_take→Qr,mem_range→Qt,set_cons_zero→Qu,set_cons_succ→Qv,getD→Qx,length_eraseIdx_le→Qy,length_set→Qz,length_filter_le→QA,range→QE
open Go.Act renaming put→Qb
open Nat renaming le_trans→Qc,mul_comm→Qs,zero_le→QD
open Go.Value renaming ownBlock→Qd,slice→QB,agg→QF,int→QG
open Or renaming inl→Qf,inr→Qw
open Bool renaming eq_false_iff→Qi
open Option renaming some→QC
namespace Go.Proofs.YtbkjljffnkdcjaaGreat
open Go.RowKit Go.Maps
theorem Au {w:World} {B g n c k:Nat} {l:List Int} (h:ax w B (.slice (some ⟨g,0,none⟩) n c) l) (hk:k<=l.length):aJ w (.slice (some ⟨g,k,none⟩) (n - k) (c - k)) (l.drop k):=by
 obtain⟨rfl,-⟩:=oO h;have hm:=h.2.2;refine⟨_,c - k,by rw[Qg],fun x hx=>h.2.1 x (Qq hx),by rw[Qg];omega,fun bh=>⟨g,k,rfl,fun i hi=>?_⟩⟩;rw[Qg] at hi;obtain⟨g',e,hc⟩:=h.some (by omega);simp only[QC.injEq,Addr.mk.injEq,and_true] at e;subst e;rw[hc (k+i) (by omega)];simp[Qx,List.getElem?_drop]
theorem zQ {w:World} {B g n c k:Nat} {l:List Int} (h:ax w B (.slice (some ⟨g,0,none⟩) n c) l) (hk:k<=l.length):aJ w (.slice (some ⟨g,0,none⟩) k c) (l.take k):=by
 obtain⟨rfl,-⟩:=oO h;have hm:=h.2.2;have hl:(l.take k).length=k:=by rw[Qo];omega
 refine⟨_,c,by rw[hl],fun x hx=>h.2.1 x (Qr hx),by rw[hl];omega,fun bh=>⟨g,0,rfl,fun i hi=>?_⟩⟩;rw[hl] at hi;obtain⟨g',e,hc⟩:=h.some (by omega);simp only[QC.injEq,Addr.mk.injEq,and_true] at e;subst e;rw[Nat.zero_add,hc i (by omega)];simp[Qx,hi]
theorem oA (u v:Value) (l m:List Int) (w:World) (h1:aJ w u l) (h2:aJ w v m) (hl:l.length+m.length<1000000) :
  Calls Tryz.prog 114 #[.slice (some ⟨w.heap.size,0,none⟩) 2 2] (w.alloc (.cells #[u,v] 25)) fun e w'=>∃ v',e=.returned v'/\ax w' w.heap.size v' (l++m)/\ai [] w w':=by
 have hc:=(ai.refl [] w).alloc (.cells #[u,v] 25);have hb:=heap_alloc_new w (.cells #[u,v] 25);refine (xe w.heap.size 2 2 (fun k=>if k=0 then u else v) [l,m] _ rfl (by omega) (by simp;omega) (fun k hk=>by
  rcases (show k=0\/k=1 by omega) with rfl | rfl
  ·exact⟨(cell_of_row _ _ 0 _ _ _ hb).trans rfl,h1.fresh hc⟩
  exact⟨(cell_of_row _ _ 1 _ _ _ hb).trans rfl,h2.fresh hc⟩)).mono ?_
 rintro e w' ⟨v',rfl,hr,hc'⟩;exact⟨v',rfl,by simpa using hr.base hc.size,hc.t hc'⟩
namespace Plain
theorem KI (g:Gr) (on:Int->Bool) (w:List Int) (v:Int):on v=eF g on (w.take 0) v:=by simp[eF]
theorem Kk {g:Gr} {on:Int->Bool} {w:List Int} {k:Nat} (hk:k<w.length) (v:Int):eF g on (w.take (k+1)) v=if v=g.tail (w.getD k 0) then true else eF g on (w.take k) v:=by
 have e:w.take (k+1)=w.take k++[w.getD k 0]:=by
  rw[List.take_add_one];simp[Qx,hk]
 unfold eF;rw[e,List.any_append];by_cases q:v=g.tail (w.getD k 0)
 ·rw[if_pos q]
  simp[q]
 rw[if_neg q];have:decide (g.tail (w.getD k 0)=v)=false:=decide_eq_false fun r=>q r.symm;simp only[List.any_cons,List.any_nil,this,Bool.or_false]
theorem Ly {g:Gr} {on:Int->Bool} {F:List (List Int)} {E ks:List Int} (hE:E.Nodup):(cr g on F E ks).length<=E.length:=by
 have h:=(mN (g:=g) (on:=on) (F:=F) (ks:=ks) hE).length_eq;rw[<-h];refine nb (f:=fun c:bj=>c.ah) fun c hc=>?_;obtain⟨l,hl,rfl⟩:=List.mem_map.1 hc;exact (kB (gu g on E).ok hl).1
theorem Lh {w:List Int} (h:w≠[]):w.getD (w.length - 1) 0=w.getLastD 0/\w.getLastD 0∈w:=by
 rcases List.eq_nil_or_concat w with r | ⟨m,e,r⟩
 ·exact absurd r h
 rw[List.concat_eq_append] at r;subst r;rw[List.getLastD_eq_getLast?];simp[Qx]
end Plain
set_option maxRecDepth 100000 in
set_option maxHeartbeats 8000000 in
theorem KY (w0 w:World) (sb ob N i:Nat) (vE fv rv:Value) (xs ys:List Value) (g:Plain.Gr) (b:Plain.Pt) (s:Plain.Sk) (p:Plain.Pt) (aa:List (List Int)) (hO:CZ w0 w sb ob N g vE fv rv xs ys s) (hb:b.err g=0) (jP:Plain.rD g b s p aa) (hi:i<s.rest.length) (hf:(s.rest.getD i ⟨[],[],[]⟩).aj≠[]) :
  Calls Tryz.prog 57 #[.pointer (some ⟨sb,0,none⟩),.int .i64 i] w fun e w'=>e=.returned (.tuple #[])/\∃ fv' rv' xs' ys',CZ w0 w' sb ob N g vE fv' rv' xs' ys' (s.put g b.v i):=by
 obtain⟨a,z,f,wy,old,hP⟩:=Plain.LP hb hO.base.n jP hi hf;have SL:=lh (fun k j o h1 h2 h3=>Plain.Yt (k:=k) (j:=j) (o:=o) hP h1 h2 h3);have HP:=lh hP;have HB:=lh hO.base;have AW:=lh hO.aj;have aek:=lh hO.far;have ir:=lh hO.base.zl.small;have q4:=hO.base.q4;have Cq:s.rest.length<=1024:=hP.rl;obtain⟨rb,rc,UM⟩:=hO.rest.some (by omega);subst UM;have uV:=lh hO.rest;have ma:=hO.rest.cells;obtain⟨t0,t1,t2⟩:=Br hi;have c0:=hO.rest.cell (k:=3*i) (by omega);have c1:=hO.rest.cell (k:=3*i+1) (by omega);have c2:=hO.rest.cell (k:=3*i+2) (by omega);have r0:=hO.rest.row t0;have r1:=hO.rest.row t1;have r2:=hO.rest.row t2;obtain⟨v0,e0⟩:∃ v,ys.getD (3*i) undef=v:=⟨_,rfl⟩;obtain⟨v1,e1⟩:∃ v,ys.getD (3*i+1) undef=v:=⟨_,rfl⟩;obtain⟨v2,e2⟩:∃ v,ys.getD (3*i+2) undef=v:=⟨_,rfl⟩;have HE0:=lh e0;rw[Qs 3 i] at c0 c1 c2;rw[Qs 3 i] at e0 e1 e2 r0 r1 r2;rw[e0] at c0 r0;rw[e1] at c1 r1;rw[e2] at c2 r2;obtain⟨c,hc⟩:∃ c,s.rest.getD i ⟨[],[],[]⟩=c:=⟨_,rfl⟩;have HC:=lh hc;rw[hc] at HP SL r0 r1 r2 hP;obtain⟨o0,p0,rfl⟩:=r0.shape;obtain⟨o1,p1,rfl⟩:=r1.shape;obtain⟨o2,p2,rfl⟩:=r2.shape;have HR0:=lh r0;have Sf:=lh r1;have y7:=lh r2;have hii:(i:Int)<(s.rest.length:Int):=by omega
 have wi:IntKind.i64.wrap ((i:Int)+1)=(i:Int)+1:=IntWalk.i64_in _ (by omega)
 -- the blocks that may aa
 obtain⟨own,gh⟩:∃ own:List Nat,Hid ((∀ j∈own,w0.heap.size<=j/\j<w.heap.size)/\sb∈own/\ob∈own/\(∀ b,fv.ownBlock=some b->b∈own)/\rb∈own/\∀ l b,l<ys.length->(ys.getD l undef).ownBlock=some b->b∈own):=by
  refine⟨sb :: ob :: rb :: (fv.ownBlock.toList++(QE ys.length).flatMap fun l=>(ys.getD l undef).ownBlock.toList),lh ⟨fun j hj=>?_,by simp,by simp,fun b hb=>by have Cc:=hb;simp only[Ql,Qh];exact Qw (Qw (Qw (Qf (by rw[Cc];simp)))),by simp,fun l b hl hb=>?_⟩⟩
  ·simp only[Ql,Qh,Qp,Qt] at hj
   rcases hj with r | r | r | r | ⟨l,hl,r⟩
   ·rw[r];exact⟨hO.base.low,hO.base.kind.lt⟩
   ·rw[r];exact hO.base.on.lt
   ·rw[r];exact hO.rest.out.lt rb rfl
   ·exact hO.aj.out.lt j (by simpa using r)
   have:=hO.rest.kind hl (show _=some j by simpa using r);exact⟨this.1,this.2.1⟩
  simp only[Ql,Qh,Qp,Qt];exact Qw (Qw (Qw (Qw ⟨l,hl,by rw[hb];simp⟩)))
 obtain⟨yM,TE⟩:∃ yM,ys.take (3*i)++ys.drop (3*i+3)=yM:=⟨_,rfl⟩;have Gq:∀ l,l<yM.length->∃ l',l'<ys.length/\l'≠3*i/\yM.getD l undef=ys.getD l' undef:=fun l hl=>by
  rw[<-TE,Qe,Qo,Qg] at hl;rw[<-TE,rQ (by omega)];by_cases q:l<3*i
  ·exact⟨l,by omega,by omega,by rw[if_pos q]⟩
  exact⟨l - 3*i+(3*i+3),by omega,by omega,by rw[if_neg q]⟩
 have aeF:=lh (show ∀ l b,l<yM.length->(yM.getD l undef).ownBlock=some b->b∈own from fun l b hl hb=>by
  obtain⟨l',h1,-,h3⟩:=Gq l hl;rw[h3] at hb;exact gh.out.2.2.2.2.2 l' b h1 hb)
 have V8:=lh (show nH ob xs yM from⟨aek.out.o,fun k l b hk hl hb hc=>by
  obtain⟨l',h1,-,h3⟩:=Gq l hl;rw[h3] at hc;exact aek.out.y k l' b hk h1 hb hc⟩)
 have ajl:=lh (show ∀ l b,l<yM.length->(yM.getD l undef).ownBlock=some b->(QB o0 c.ah.length p0).ownBlock≠some b from fun l b hl hb hc=>by
  obtain⟨l',h1,h2,h3⟩:=Gq l hl;rw[h3] at hb;rcases uV.out.apart l' (3*i) h1 (by omega) h2 with r | r
  ·rw[r] at hb;cases hb
  rw[HE0.out] at r;exact r (hb.trans hc.symm))
 have abZ:=uV.out.out.lt rb rfl;have acJ:=HB.out.kind.lt;have hrs:rb≠sb:=(cf uV.out.out rfl).ne HB.out.kind (by decide);clear hO jP hf e1 e2 t0 t1 t2 hc r0 r1 r2;have eV:=lh (show ai [] w ((w.alloc (.cells #[.pointer (some ⟨sb,0,none⟩)] 79)).alloc (.cells #[.slice o0 c.ah.length p0,.slice o1 c.ends.length p1,.slice o2 c.aj.length p2] 151)) from (show ai [] w ((w.alloc (.cells #[.pointer (some ⟨sb,0,none⟩)] 79)).alloc (.cells #[.slice o0 c.ah.length p0,.slice o1 c.ends.length p1,.slice o2 c.aj.length p2] 151)) from (((ai.refl [] w).alloc _).alloc _)));have cK:=heap_alloc_new w (.cells #[.pointer (some ⟨sb,0,none⟩)] 79);replace cK:=(show ai [] (w.alloc (.cells #[.pointer (some ⟨sb,0,none⟩)] 79)) ((w.alloc (.cells #[.pointer (some ⟨sb,0,none⟩)] 79)).alloc (.cells #[.slice o0 c.ah.length p0,.slice o1 c.ends.length p1,.slice o2 c.aj.length p2] 151)) from ((ai.refl [] (w.alloc (.cells #[.pointer (some ⟨sb,0,none⟩)] 79))).alloc _)).heap cK (by simp);have eN:=heap_alloc_new (w.alloc (.cells #[.pointer (some ⟨sb,0,none⟩)] 79)) (.cells #[.slice o0 c.ah.length p0,.slice o1 c.ends.length p1,.slice o2 c.aj.length p2] 151);rw[show (w.alloc (.cells #[.pointer (some ⟨sb,0,none⟩)] 79)).heap.size=w.heap.size+1 by simp] at eN;have HX:=lh (fun (w2:World) (dL:ai [] ((w.alloc (.cells #[.pointer (some ⟨sb,0,none⟩)] 79)).alloc (.cells #[.slice o0 c.ah.length p0,.slice o1 c.ends.length p1,.slice o2 c.aj.length p2] 151)) w2)=>(⟨dL.heap cK (by simp),dL.heap eN (by simp),by have hz:=dL.size;simpa using hz⟩:w2.heap[w.heap.size]?=some (.cells #[.pointer (some ⟨sb,0,none⟩)] 79 (0,0))/\w2.heap[w.heap.size+1]?=some (.cells #[.slice o0 c.ah.length p0,.slice o1 c.ends.length p1,.slice o2 c.aj.length p2] 151 (0,0))/\w.heap.size+2<=w2.heap.size));clear cK eN;have CK:=lh (show ((w.alloc (.cells #[.pointer (some ⟨sb,0,none⟩)] 79)).alloc (.cells #[.slice o0 c.ah.length p0,.slice o1 c.ends.length p1,.slice o2 c.aj.length p2] 151)).heap.size=w.heap.size+2 by simp);have la:=HX.out _ (ai.refl _ _);have mo:=lh (fun wr (h:ai own _ wr)=>(show wr.cell? ⟨w.heap.size,0,none⟩=some (.pointer (some ⟨sb,0,none⟩))/\wr.cell? ⟨w.heap.size+1,0,none⟩=some (.slice o0 c.ah.length p0)/\wr.cell? ⟨w.heap.size+1,1,none⟩=some (.slice o1 c.ends.length p1)/\wr.cell? ⟨w.heap.size+1,2,none⟩=some (.slice o2 c.aj.length p2) from by
  have n1:w.heap.size ∉ own:=fun q=>by have:=gh.out.1 _ q;omega
  have n2:w.heap.size+1 ∉ own:=fun q=>by have:=gh.out.1 _ q;omega
  have h1:=h.heap la.1 n1;have h2:=h.heap la.2.1 n2;exact⟨(cell_of_row _ _ 0 _ _ _ h1).trans rfl,(cell_of_row _ _ 0 _ _ _ h2).trans rfl,(cell_of_row _ _ 1 _ _ _ h2).trans rfl,(cell_of_row _ _ 2 _ _ _ h2).trans rfl⟩))
 obtain⟨x0,-⟩:=mo.out _ (ai.refl _ _);have q4':=(show ai [] w (w.alloc (.cells #[.pointer (some ⟨sb,0,none⟩)] 79)) from (ai.refl _ _).alloc _).c q4;replace c0:=(show ai [] w (w.alloc (.cells #[.pointer (some ⟨sb,0,none⟩)] 79)) from (ai.refl _ _).alloc _).c c0;replace c1:=(show ai [] w (w.alloc (.cells #[.pointer (some ⟨sb,0,none⟩)] 79)) from (ai.refl _ _).alloc _).c c1;replace c2:=(show ai [] w (w.alloc (.cells #[.pointer (some ⟨sb,0,none⟩)] 79)) from (ai.refl _ _).alloc _).c c2
 go_enter Tryz.func57,Tryz.ntmps57
 clear la
 go_wp2_with fail
 clear q4' c0 c1 c2;replace q4:=eV.out.c q4;generalize ((w.alloc (.cells #[.pointer (some ⟨sb,0,none⟩)] 79)).alloc (.cells #[.slice o0 c.ah.length p0,.slice o1 c.ends.length p1,.slice o2 c.aj.length p2] 151))=w1 at *;obtain⟨pb,pa⟩:∃ pb,w.heap.size=pb:=⟨_,rfl⟩;have rJ:=lh pa;rw[pa] at mo x0 abZ acJ ⊢;have TQ:=eV.out.size;rw[pa] at TQ;clear pa;have hpr:pb≠rb:=by omega
 have XU:pb≠sb:=by omega
 have qf:pb ∉ [rb]:=by simpa using hpr
 have nu:sb ∉ [rb]:=by simpa using fun e:sb=rb=>hrs e.symm
 have HPT:=lh (show ai own w1 w1 from ai.refl _ _);have aD:ai [rb] w1 w1.drew:=(ai.refl [rb] w1).drew;refine au (ai [rb] w1) [0,1,2,3,4,5,6,7,9,10] (Way.line [0,1,2,3,4,5,6,7,8,9,10,11] .done) (by kernel_rfl) (by kernel_rfl) ?_;simp only[Way.line]
 repeat
  first
   | (refine ar rfl (by rfl) (by rfl) (fun _ _ _ h=>h) aD ?_;simp only[Qb,Z1,Z2,Z3,Z4,Z5,Z6])
   | (refine aq (v:=?_) rfl (by rfl) (by rfl) (fun _ _ _ h=>h) aD (fun w' aK=>?_) ?_;rotate_left;(focus (have fU:=aK.cell x0 (by first | exact qf | exact nu);have gX:=aK.cell q4 (by first | exact qf | exact nu);clear aK;go_simp;try with_reducible rfl));simp only[Qb,Z1,Z2,Z3,Z4,Z5,Z6])
   | (refine ak rfl (by rfl) (by rfl) aD ?_;simp only[Qb,Z1,Z2,Z3,Z4,Z5,Z6])
 refine aC rfl (by rfl) (by rfl) (fun K hK=>?_);go_simp;refine (RM rb rc i w0.heap.size s.rest ys _ ((uV.out.fresh eV.out).fresh ((ai.refl [] w1).drew)) hi (by omega)).mono ?_;rw[TE];rintro e w2 ⟨rfl,gL,bG⟩;have bD:ai [rb] w1 w2:=aD.trans bG (fun j hj=>Qf hj);refine hK.out _ _ (fun _=>bD) ?_;clear hK K aD
 try simp only[Qb,Z1,Z2,Z3,Z4,Z5,Z6]
 repeat
  first
   | (refine ar rfl (by rfl) (by rfl) (fun _ _ _ h=>h) bD ?_;simp only[Qb,Z1,Z2,Z3,Z4,Z5,Z6])
   | (refine aq (v:=?_) rfl (by rfl) (by rfl) (fun _ _ _ h=>h) bD (fun w' aK=>?_) ?_;rotate_left;(focus (have fU:=aK.cell x0 (by first | exact qf | exact nu);have gX:=aK.cell q4 (by first | exact qf | exact nu);clear aK;go_simp;try with_reducible rfl));simp only[Qb,Z1,Z2,Z3,Z4,Z5,Z6])
   | (refine ak rfl (by rfl) (by rfl) bD ?_;simp only[Qb,Z1,Z2,Z3,Z4,Z5,Z6])
 have s4:=bD.cell q4 nu;have fh:=(HB.out.fresh eV.out).more bD (by simpa using abZ.1) nu (by simpa using (cf uV.out.out rfl).ne HB.out.on.dg (by decide) |>.symm);have f4:=fh.free 4;refine aC rfl (by rfl) (by rfl) (fun K hK=>?_);go_simp;refine hK.out _ _ (fun h=>absurd h (Qi.1 (by kernel_rfl))) ?_;clear hK K
 try simp only[Qb,Z1,Z2,Z3,Z4,Z5,Z6]
 refine aB ?_;obtain⟨n1,y8⟩:∃ n1,(s.rest.eraseIdx i).length=n1:=⟨_,rfl⟩;have ZN:=lh y8;rw[y8] at gL ⊢;have bw:ai [sb] w2 (w2.setCell ⟨sb,4,none⟩ (.slice (some ⟨rb,0,none⟩) n1 rc)):=(ai.refl _ _).setCell (Qf (by simp)) _;have rn:∀ j∈[sb],bI w2 j 85:=fun j hj=>by rw[Qa.1 hj];exact fh.kind
 have XW:∀ j∈[rb],bI w1 j 151:=fun j hj=>by rw[Qa.1 hj];exact (cf uV.out.out rfl).aM eV.out (by simp)
 have M':=lh (fh.acI (.slice (some ⟨rb,0,none⟩) n1 rc));have HF3:=lh (((AW.out.fresh eV.out).other bD (fun j hj=>⟨_,XW j hj,by decide,by decide,by decide⟩)).other bw (fun j hj=>⟨_,rn j hj,by decide,by decide,by decide⟩));have HN3:=lh (gL.others bw (fun j hj=>⟨_,rn j hj,by decide,by decide⟩));have bd:∀ {v:Value} {l:List Int},ax w w0.heap.size v l->ax (w2.setCell ⟨sb,4,none⟩ (.slice (some ⟨rb,0,none⟩) n1 rc)) w0.heap.size v l:=fun {v} {l} hr=>by
  have h1:=hr.aM eV.out (by simp);have h2:=h1.aM bD (fun b hb hm=>(h1.dg (by simpa using hb)).ne (XW b hm) (by decide) rfl);exact h2.aM bw (fun b hb hm=>(h2.dg (by simpa using hb)).ne (rn b hm) (by decide) rfl)
 have HE3:=lh (bd HR0.out);have HD3:=lh (bd Sf.out);have dD:=lh (bd y7.out);have HT3:=lh (show ai own w1 (w2.setCell ⟨sb,4,none⟩ (.slice (some ⟨rb,0,none⟩) n1 rc)) from (bD.mono (fun j hj=>Qf (by rw[Qa.1 hj];exact gh.out.2.2.2.2.1))).trans bw (fun j hj=>Qf (by rw[Qa.1 hj];exact gh.out.2.1)));clear bw rn XW bd gL bG bD fh s4 f4 y8 HPT x0 q4 wi Gq TE;generalize w2.setCell ⟨sb,4,none⟩ (.slice (some ⟨rb,0,none⟩) n1 rc)=w3 at *;obtain⟨x0,x1,x2,x3⟩:=mo.out _ HT3.out;have hP:=HP.out;have Tj:=hP.a0;have haN:=hP.aN;have awm:=hP.el;have aj8:=hP.Ji;have avw:=hP.fl;clear hpr XU qf nu
 go_wp2_with fail
 refine (Tz sb N w0.heap.size ob a c.aj.length vE _ _ o2 p2 g s.on b.v c.ah c.ends w3 M'.out.zl M'.out.q2 M'.out.on hP.ah aj8 HE3.out.ints HD3.out.ints (by omega) Tj haN hP.part hP.aV).mono ?_;rw[hP.uG];rintro e w4 ⟨v4,rfl,SE,iW⟩;obtain⟨o4,p4,rfl⟩:=SE.shape;have Cn:=lh SE;have HT4:=lh (HT3.out.t iW);have HB4:=lh (M'.out.fresh iW);have P3:=lh (HF3.out.fresh iW);have HN4:=lh (HN3.out.fresh iW);have RV:=lh (HE3.out.aM iW (by simp));have HD4:=lh (HD3.out.aM iW (by simp));have kh:=lh (dD.out.aM iW (by simp));have atn:=lh iW.size;have hwl:=hP.wl;have anZ:=lh HT3.out.size;clear SE iW M' HF3 HN3 HE3 HD3 dD HT3 x0 x1 x2 x3 hP;have HWD:=lh HP.out.wd
 go_wp2_with fail
 go_loopw [7,41] (fun _ k wr=>∃ j:Nat,j<=wy.length/\k=.int .i64 j/\cz w0 wr sb ob N g vE fv (.slice (some ⟨rb,0,none⟩) n1 rc) (Plain.eF g s.on (wy.take j))/\ai [ob] w4 wr) (fun _ k _=>wy.length - (intOf k).toNat)
 case atStart=>exact⟨0,QD _,rfl,HB4.out.same (fun _ _=>Plain.KI _ _ _ _),ai.refl _ _⟩
 case round =>
  obtain⟨j,hj,rfl,hbj,Ce⟩:=hrel;have SA:=lh hbj;have T4:=lh Ce;have HTJ:=lh (HT4.out.trans Ce (fun k hk=>Qf (by rw[Qa.1 hk];exact gh.out.2.2.1)));have KU:∀ k∈[ob],bI w4 k 4:=fun k hk=>by rw[Qa.1 hk];exact HB4.out.on.dg
  have HRJ:=lh (Cn.out.aM Ce (fun b hb hm=>(Cn.out.dg (by simpa using hb)).ne (KU b hm) (by decide) rfl));obtain⟨x0,x1,x2,x3⟩:=mo.out _ HTJ.out;clear hbj Ce;by_cases aU:j<wy.length
  ·obtain⟨rb2,Wx,tQ⟩:=HRJ.out.some (by omega)
   subst Wx;have cZ:=tQ j aU;have mm:=HWD.out _ (Plain.aZ aU);have HT:=lh (Plain.Kk (g:=g) (on:=s.on) aU);obtain⟨n,v,hn,gL,hv,zL,hn4⟩:=SA.out.zl.MB mm.1 mm.2;rw[hn] at cZ HT hv;rw[hv] at HT;have HV:=lh hv;have Tu:(v:Int)<(N:Int):=by omega
   have s0:=SA.out.zl.c0;have s1:=SA.out.zl.c1;have s2:=SA.out.q2;obtain⟨eo,aeT,DQ,-⟩:=SA.out.zl.gr;simp only[QF.injEq,Array.mk.injEq,List.cons.injEq,true_and,and_true] at DQ;have X7:=lh SA.out.zl.gr;rw[DQ] at s1 X7;have lp:(j:Int)<(wy.length:Int):=by omega
   clear tQ hn hv mm KU x1 x2 x3
   go_wp2_with fail
   have aD:ai [] wr wr.drew:=(ai.refl [] wr).drew;refine au (ai [] wr) [0,1,2,3,4,5,6,7,8,10] (Way.line [0,1,2,3,4,5,6,7,8,9,10,11] .done) (by kernel_rfl) (by kernel_rfl) ?_;simp only[Way.line]
   repeat
    first
     | (refine ar rfl (by rfl) (by rfl) (fun _ _ _ h=>h) aD ?_;simp only[Qb,Z1,Z2,Z3,Z4,Z5,Z6])
     | (refine aq (v:=?_) rfl (by rfl) (by rfl) (fun _ _ _ h=>h) aD (fun w' aK=>?_) ?_;rotate_left;(focus (have fU:=aK.c x0;have gX:=aK.c s0;have nP:=aK.c s1;have Fx:=aK.c s2;clear aK;go_simp;try with_reducible rfl));simp only[Qb,Z1,Z2,Z3,Z4,Z5,Z6])
     | (refine ak rfl (by rfl) (by rfl) aD ?_;simp only[Qb,Z1,Z2,Z3,Z4,Z5,Z6])
   refine aC rfl (by rfl) (by rfl) (fun K hK=>?_);go_simp;refine (dy _ g n _ gL (by have:=ir.out;omega) (X7.out.fresh aD)).mono ?_;rw[HV.out];rintro e w9 ⟨rfl,hc9⟩;have bD:ai [] wr w9:=aD.t hc9;refine hK.out _ _ (fun _=>bD) ?_;clear hK K hc9 aD
   try simp only[Qb,Z1,Z2,Z3,Z4,Z5,Z6]
   repeat
    first
     | (refine ar rfl (by rfl) (by rfl) (fun _ _ _ h=>h) bD ?_;simp only[Qb,Z1,Z2,Z3,Z4,Z5,Z6])
     | (refine aq (v:=?_) rfl (by rfl) (by rfl) (fun _ _ _ h=>h) bD (fun w' aK=>?_) ?_;rotate_left;(focus (have fU:=aK.c x0;have gX:=aK.c s0;have nP:=aK.c s1;have Fx:=aK.c s2;clear aK;go_simp;try with_reducible rfl));simp only[Qb,Z1,Z2,Z3,Z4,Z5,Z6])
     | (refine ak rfl (by rfl) (by rfl) bD ?_;simp only[Qb,Z1,Z2,Z3,Z4,Z5,Z6])
   have Ue:=SA.out.fresh bD;have bc:=Ue.on.cell zL;have bf:=Ue.on.free v;refine aC rfl (by rfl) (by rfl) (fun K hK=>?_);go_simp;refine hK.out _ _ (fun h=>absurd h (Qi.1 (by kernel_rfl))) ?_;clear hK K
   try simp only[Qb,Z1,Z2,Z3,Z4,Z5,Z6]
   refine aB ?_;have ajF:=lh ((Ue.aeP v).same (on':=Plain.eF g s.on (wy.take (j+1))) (fun i _=>(HT.out i).symm));have Kz:=lh ((T4.out.t bD).trans ((ai.refl [ob] w9).setCell (p:=⟨ob,v,none⟩) (Qf (by simp)) (.bool true)) (fun j hj=>Qf hj));clear Ue bc bf bD x0 s0 s1 s2 cZ;generalize w9.setCell ⟨ob,v,none⟩ (.bool true)=Ni at *;go_wp2
   go_roundw
   case rel=>exact⟨j+1,by omega,by go_num,ajF.out,Kz.out⟩
   case measure=>simp[intOf];omega
  have e:j=wy.length:=by omega
  subst e;rw[List.take_length] at SA;have Ce:=T4.out;have YL:=lh (P3.out.aM Ce (fun b hb hm=>(cf P3.out.out hb).ne (KU b hm) (by decide) rfl) (fun k b hk hb hm=>V8.out.o k hk (by rw[hb,Qa.1 hm])));have HN5:=lh (HN4.out.others Ce (fun j hj=>⟨_,KU j hj,by decide,by decide⟩));have bd:∀ {v:Value} {l:List Int},ax w4 w0.heap.size v l->ax wr w0.heap.size v l:=fun {v} {l} hr=>hr.aM Ce (fun b hb hm=>(hr.dg (by simpa using hb)).ne (KU b hm) (by decide) rfl);have HE5:=lh (bd RV.out);have HD5:=lh (bd HD4.out);have iP:=lh (bd kh.out);have aeX:=lh Ce.size;have ze:=lh SA.out;clear Ce KU bd P3 HN4 RV HD4 kh HB4 HT4 Cn SA T4 hj aU;obtain⟨eb,ee,VX⟩:=HD5.out.some (by omega);subst ee;have d0:=VX 0 (by omega);rw[Tj] at d0;have Uv:0<wy.length:=List.length_pos_iff.2 HP.out.wne;obtain⟨wb,ew,A5⟩:=HRJ.out.some Uv;subst ew;have amT:=lh (show pb<=wb from Qc (Qc TQ anZ.out) (HRJ.out.low wb (by simp[Qd])).1);have dl:=A5 (wy.length - 1) (by omega);obtain⟨l1,l2⟩:=Plain.Lh HP.out.wne;have hld:=HWD.out _ l2;have hlz:=HP.out.z0;rw[l1] at dl;obtain⟨m,hm⟩:∃ m:Nat,wy.getLastD 0=m:=⟨(wy.getLastD 0).toNat,by omega⟩;rw[hm] at dl hld hlz;have jS:m / 2<g.e.length:=by omega
  have BV:=lW m (by have:=ir.out;omega);have yO:g.tail (Plain.aE (m:Int))=(z:Int):=by rw[Plain.aA];exact hlz
  have Al:=Plain.bA (m:Int);obtain⟨tm,Bp⟩:∃ tm:Nat,Plain.aE (m:Int)=tm:=⟨(Plain.aE (m:Int)).toNat,by unfold Plain.aE;split <;> omega⟩;rw[Bp] at BV yO Al;have adF:tm / 2<g.e.length:=by omega
  have HLZ:=lh yO;clear Bp yO Al;have s0:=ze.out.zl.c0;have s1:=ze.out.zl.c1;obtain⟨eo,aeT,DQ,-⟩:=ze.out.zl.gr;simp only[QF.injEq,Array.mk.injEq,List.cons.injEq,true_and,and_true] at DQ;subst DQ;have X7:=lh ze.out.zl.gr;have sA:(wy.length:Int)<=1024:=by omega
  have ajY:0<(wy.length:Int):=by omega
  have ajy:0<c.ends.length:=by omega
  have UJ:1<=(wy.length:Int):=by omega
  have zb:(wy.length:Int) - 1<(wy.length:Int):=by omega
  have wq:IntKind.i64.wrap ((wy.length:Int) - 1)=(wy.length:Int) - 1:=IntWalk.i64_in _ (by omega);clear VX A5 l1 l2 hld hlz hm
  go_wp2_with fail
  have aD:ai [] wr wr.drew:=(ai.refl [] wr).drew;refine au (ai [] wr) [0,1,2,3,4,5,6,7,8,9,10,11,12,13,14,16,17] (Way.line [0,1,2,3,4,5,6,7,8,9,10,11,12,13,14,15,16,17] .done) (by kernel_rfl) (by kernel_rfl) ?_;simp only[Way.line]
  repeat
   first
    | (refine ar rfl (by rfl) (by rfl) (fun _ _ _ h=>h) aD ?_;simp only[Qb,Z1,Z2,Z3,Z4,Z5,Z6])
    | (refine aq (v:=?_) rfl (by rfl) (by rfl) (fun _ _ _ h=>h) aD (fun w' aK=>?_) ?_;rotate_left;(focus (have fU:=aK.c x0;have gX:=aK.c x2;have nP:=aK.c s0;have Fx:=aK.c s1;have rd4:=aK.c d0;have rd5:=aK.c dl;clear aK;go_simp;try with_reducible rfl));simp only[Qb,Z1,Z2,Z3,Z4,Z5,Z6])
    | (refine ak rfl (by rfl) (by rfl) aD ?_;simp only[Qb,Z1,Z2,Z3,Z4,Z5,Z6])
  refine aC rfl (by rfl) (by rfl) (fun K hK=>?_);go_simp;refine (dy _ g tm _ adF (by have:=ir.out;omega) (X7.out.fresh aD)).mono ?_;rw[HLZ.out];rintro e w6 ⟨rfl,hc6⟩;have bD:ai [] wr w6:=aD.t hc6;refine hK.out _ _ (fun _=>bD) ?_;clear hK K hc6 aD
  try simp only[Qb,Z1,Z2,Z3,Z4,Z5,Z6]
  repeat
   first
    | (refine ar rfl (by rfl) (by rfl) (fun _ _ _ h=>h) bD ?_;simp only[Qb,Z1,Z2,Z3,Z4,Z5,Z6])
    | (refine aq (v:=?_) rfl (by rfl) (by rfl) (fun _ _ _ h=>h) bD (fun w' aK=>?_) ?_;rotate_left;(focus (skip;clear aK;go_simp;try with_reducible rfl));simp only[Qb,Z1,Z2,Z3,Z4,Z5,Z6])
    | (refine ak rfl (by rfl) (by rfl) bD ?_;simp only[Qb,Z1,Z2,Z3,Z4,Z5,Z6])
  refine aB ?_;have HB6:=lh (ze.out.fresh bD);have RX:=lh (YL.out.fresh bD);have HN6:=lh (HN5.out.fresh bD);have HE6:=lh (HE5.out.aM bD (by simp));have ni:=lh (iP.out.aM bD (by simp));have VY:=lh (HRJ.out.aM bD (by simp));have HT6:=lh (HTJ.out.t bD);have Z':=lh (Qc aeX.out bD.size);clear bD ze YL HN5 HE5 HD5 iP HRJ HTJ aeX s0 s1 d0 dl x0 x1 x2 x3 X7 BV adF HLZ ajY ajy UJ zb wq jS;obtain⟨x0,x1,x2,x3⟩:=mo.out _ HT6.out;obtain⟨cb,ce,jM⟩:=ni.out.some (by omega);subst ce;have d0:=jM 0 (by omega);rw[HP.out.f0] at d0;obtain⟨fb,fc,Nu⟩:=cN RX.out.out (by have:=HP.out.fF;omega);subst Nu;have hfF:=HP.out.fF;have sF:=RX.out.row f hfF;rw[HP.out.V2] at sF;have O3:=RX.out.cell (k:=2*f) (by rw[RX.out.len];omega);obtain⟨u0,hu0⟩:∃ u,xs.getD (2*f) undef=u:=⟨_,rfl⟩;rw[hu0] at sF O3;obtain⟨o5,p5,rfl⟩:=sF.shape;have Rw:=lh sF;have q3:=HB6.out.q3;have ave:0<c.aj.length:=by omega
  have hfi:(f:Int)<(s.aj.length:Int):=by omega
  rw[Qs 2 f] at O3;clear jM sF
  go_wp2_with fail
  have hol:0<old.length:=by
   obtain⟨x,hx,-⟩:=HP.out.oa;exact List.length_pos_of_mem hx
  obtain⟨db,e5,-⟩:=Rw.out.some hol;subst e5;obtain⟨-,ao7⟩:=oO Rw.out;have asi:=HP.out.ol;have aem:old.length<1000000000:=by omega
  obtain⟨Hw,SZ⟩:=Plain.EZ (P:=fun d=>decide (g.tail d=(a:Int))) (l:=old) (by obtain⟨x,hx,e⟩:=HP.out.oa;exact⟨x,hx,decide_eq_true e⟩);obtain⟨k1,SU⟩:∃ k1,old.findIdx (fun d=>decide (g.tail d=(a:Int)))=k1:=⟨_,rfl⟩;have HK1:=lh SU;rw[SU] at Hw SZ;have LF:=lh Hw;have Rk:=(ai.refl [] w6).alloc (.cells #[.int .i64 (a:Nat)] 3);have dL:=heap_alloc_new w6 (.cells #[.int .i64 (a:Nat)] 3);have hax:=(cell_of_row _ _ 0 _ _ _ dL).trans (show _=some (QG .i64 (a:Nat)) from rfl);have aec:a<1000000:=by have:=ir.out;omega
  have ac8:z<1000000:=by have:=ir.out;have:=HP.out.zN;omega
  clear Hw SU dL x1 x2 x3 d0 O3 q3;refine (Da pb a aec w6).mono ?_;rintro e w7 ⟨rfl,rfl⟩
  go_wp2_with fail
  refine (AZ a pb w6.heap.size sb N _ g _ old _ (HB6.out.fresh Rk).zl aec (Rk.c x0) hax HP.out.od aem (Rw.out.ints.fresh Rk)).mono ?_;rw[LF.out];rintro e w8 ⟨rfl,hc8⟩;have hs8:ai [] w6 w8:=Rk.t hc8;have Sa:=lh hs8;have Nv:=lh (Rw.out.aM hs8 (by simp));have aai:k1<=old.length:=by omega
  have am5:k1<=p5:=by omega
  have aiE:¬ p5=k1:=by omega
  have ajh:(k1:Int)<=(old.length:Int):=by omega
  have alq:(k1:Int)<=(p5:Int):=by omega
  clear Rk hax hc8 hs8 x0
  go_wp2_with fail
  have aD:ai [] w8 w8.drew:=(ai.refl [] w8).drew;refine au (ai [] w8) [0,1,2,3,4,5,8] (Way.line [0,1,2,3,4,5,6,7,8] .done) (by kernel_rfl) (by kernel_rfl) ?_;simp only[Way.line]
  repeat
   first
    | (refine ar rfl (by rfl) (by rfl) (fun _ _ _ h=>h) aD ?_;simp only[Qb,Z1,Z2,Z3,Z4,Z5,Z6])
    | (refine aq (v:=?_) rfl (by rfl) (by rfl) (fun _ _ _ h=>h) aD (fun w' aK=>?_) ?_;rotate_left;(focus (skip;clear aK;go_simp;try with_reducible rfl));simp only[Qb,Z1,Z2,Z3,Z4,Z5,Z6])
    | (refine ak rfl (by rfl) (by rfl) aD ?_;simp only[Qb,Z1,Z2,Z3,Z4,Z5,Z6])
  refine aC rfl (by rfl) (by rfl) (fun K hK=>?_);go_simp;refine hK.out _ _ (fun _=>aD.alloc (.cells #[.slice (some ⟨db,k1,none⟩) (old.length - k1) (p5 - k1),.slice (some ⟨db,0,none⟩) k1 p5] 25)) ?_;clear hK K
  try simp only[Qb,Z1,Z2,Z3,Z4,Z5,Z6]
  refine aC rfl (by rfl) (by rfl) (fun K hK=>?_);go_simp;refine (oA (.slice (some ⟨db,k1,none⟩) (old.length - k1) (p5 - k1)) (.slice (some ⟨db,0,none⟩) k1 p5) (old.drop k1) (old.take k1) w8.drew ((Au Nv.out aai).fresh aD) ((zQ Nv.out aai).fresh aD) (by rw[Qg,Qo];omega)).mono ?_;rintro e w9 ⟨v9,rfl,hr9,hc9⟩;have bD:ai [] w8 w9:=aD.t hc9;refine hK.out _ _ (fun _=>bD) ?_;clear hK K
  try simp only[Qb,Z1,Z2,Z3,Z4,Z5,Z6]
  repeat
   first
    | (refine ar rfl (by rfl) (by rfl) (fun _ _ _ h=>h) bD ?_;simp only[Qb,Z1,Z2,Z3,Z4,Z5,Z6])
    | (refine aq (v:=?_) rfl (by rfl) (by rfl) (fun _ _ _ h=>h) bD (fun w' aK=>?_) ?_;rotate_left;(focus (skip;clear aK;go_simp;try with_reducible rfl));simp only[Qb,Z1,Z2,Z3,Z4,Z5,Z6])
    | (refine ak rfl (by rfl) (by rfl) bD ?_;simp only[Qb,Z1,Z2,Z3,Z4,Z5,Z6])
  refine aB ?_;obtain⟨o,ho⟩:∃ o,old.drop k1++old.take k1=o:=⟨_,rfl⟩;have HO:=lh ho;rw[ho] at hr9;have hoo:∀ d∈o,d∈old:=fun d hd=>by
   rw[<-ho] at hd;rcases Qh.1 hd with r | r
   ·exact Qq r
   exact Qr r
  have agq:∀ d∈old,d∈o:=fun d hd=>by
   rw[<-ho];rw[<-List.take_append_drop k1 old] at hd;exact (Qh.1 hd).elim (fun r=>List.mem_append_right _ r) (fun r=>List.mem_append_left _ r)
  have LI:o.length=old.length:=by rw[<-ho,Qe,Qg,Qo];omega
  have HOD:=lh (show ∀ d∈o,0<=d/\d / 2<g.e.length from fun d hd=>HP.out.od d (hoo d hd));have M7:∃ x∈o,decide (g.tail x=(z:Int))=true:=by
   obtain⟨x,hx,e⟩:=HP.out.oz;exact⟨x,agq x hx,decide_eq_true e⟩
  obtain⟨Hw,SZ⟩:=Plain.EZ M7;obtain⟨j1,hj1⟩:∃ j1,o.findIdx (fun d=>decide (g.tail d=(z:Int)))=j1:=⟨_,rfl⟩;have HJ1:=lh hj1;rw[hj1] at Hw SZ;have HFJ:=lh Hw;have El:=Sa.out.t bD;have HT9:=lh (HT6.out.t El);have HB9:=lh (HB6.out.fresh El);have HF9:=lh (RX.out.fresh El);have HN9:=lh (HN6.out.fresh El);have HE9:=lh (HE6.out.aM El (by simp));have HW9:=lh (VY.out.aM El (by simp));have aeY:=lh (Qc Z'.out El.size);obtain⟨o9,p9,rfl⟩:=hr9.shape;obtain⟨gb,e9,-⟩:=hr9.some (by omega);subst e9;obtain⟨-,arx⟩:=oO hr9;have Zo:j1<=o.length:=by omega
  have alo:j1<=p9:=by omega
  have akC:¬ p9=j1:=by omega
  have anR:(j1:Int)<=(o.length:Int):=by omega
  have aj9:(j1:Int)<=(p9:Int):=by omega
  have PV:(o.take j1).length+(Plain.twins wy).length<1000000:=by rw[Qo,Plain.pd];omega
  have SN:wy.length+(o.drop j1).length<1000000:=by rw[Qg];omega
  have X5:=lh (hr9.base (B:=w4.heap.size) (Qc Z'.out Sa.out.size));have avd:o.length<=2048:=by omega
  have ae9:o.length<1000000000:=by omega
  clear LI ho hoo agq M7 Hw hj1 hr9 hc9 aD bD El HB6 RX HN6 HE6 VY Z' HT6 Sa Rw Nv LF aai am5 aiE ajh alq SZ;obtain⟨x0,x1,x2,x3⟩:=mo.out _ HT9.out
  go_wp2_with fail
  have Rk:=(ai.refl [] w9).alloc (.cells #[.int .i64 (z:Nat)] 3);have dL:=heap_alloc_new w9 (.cells #[.int .i64 (z:Nat)] 3);have hax:=(cell_of_row _ _ 0 _ _ _ dL).trans (show _=some (QG .i64 (z:Nat)) from rfl);clear dL;refine (Da pb z ac8 w9).mono ?_;rintro e Ni ⟨rfl,rfl⟩
  go_wp2_with fail
  refine (AZ z pb w9.heap.size sb N _ g _ o _ (HB9.out.fresh Rk).zl ac8 (Rk.c x0) hax HOD.out ae9 (X5.out.ints.fresh Rk)).mono ?_;rw[HFJ.out];rintro e Fk ⟨rfl,hc11⟩;have hS:=Rk.t hc11;have To:=lh (HT9.out.t hS);have Ya:=lh (HB9.out.fresh hS);have UI:=lh (HF9.out.fresh hS);have ace:=lh (HN9.out.fresh hS);have adT:=lh (HE9.out.aM hS (by simp));have ac2:=lh (HW9.out.aM hS (by simp));have adO:=lh (X5.out.aM hS (by simp));have VQ:=lh (Qc aeY.out hS.size);clear Rk hax hc11 hS x0 x1 x2 x3 HT9 HB9 HF9 HN9 HE9 HW9 X5 aeY HFJ;obtain⟨x0,x1,x2,x3⟩:=mo.out _ To.out;have q3:=Ya.out.q3;obtain⟨F0,hF0⟩:∃ F0,s.aj.length=F0:=⟨_,rfl⟩;have SI:=lh hF0;have VB:=HP.out.Fl;have YA:=cf UI.out.out rfl;obtain⟨cs,rr,jQ⟩:=YA;have aiN:rr=(0,0)/\2*F0<=cs.size:=by
   rcases UI.out.out.2 with ⟨q,-⟩ | ⟨g',c',cur,q,-,hh,h3,-,h5,-⟩
   ·cases q
   cases q;rw[jQ] at hh;simp only[QC.injEq,Obj.cells.injEq,true_and] at hh;obtain⟨rfl,rfl⟩:=hh;exact⟨rfl,by omega⟩
  obtain⟨rfl,akp⟩:=aiN;have HCS:=lh jQ;rw[hF0] at hfF VB q3 hfi;have I':=lh (heap_alloc_new Fk (.cells #[.int .i64 (f:Nat),.int .i64 (F0:Nat)] 3));have Ex:=(ai.refl [] Fk).alloc (.cells #[.int .i64 (f:Nat),.int .i64 (F0:Nat)] 3);have ES:=oJ Fk (x:=(f:Nat)) (y:=(F0:Nat)) (bn.mk (by omega) (by omega)) (bn.mk (by omega) (by omega));have X':=lh (show ∀ b,pb<=b->b≠ob/\∀ l,l<yM.length->(yM.getD l undef).ownBlock≠some b from fun b hb=>by
   refine⟨fun e=>?_,fun l hl e=>?_⟩
   ·have:=gh.out.1 ob gh.out.2.2.1
    have:=rJ.out;omega
   have:=gh.out.1 b (aeF.out l b hl e);have:=rJ.out;omega)
  have ZV:=Ya.out.fresh Ex;have NG:=lh (UI.out.fresh Ex);have Vd:=lh (ace.out.fresh Ex);have ae7:=lh (adT.out.aM Ex (by simp));have ZP:=lh (ac2.out.aM Ex (by simp));have Yp:=lh (adO.out.aM Ex (by simp));have TF:=lh (To.out.t Ex);have Wf:=lh (Qc VQ.out Ex.size);have WV:=lh (Ex.heap jQ (by simp));have O8:=lh ZV;have afH:=ZV.q3;have Zw:=lh ES;have acj:=(show Fk.heap.size<(Fk.alloc (.cells #[.int .i64 (f:Nat),.int .i64 (F0:Nat)] 3)).heap.size by simp);have af2:=lh To.out.size;clear x1 x2 x3 jQ Ya UI ace adT ac2 adO To VQ ZV ES HCS
  go_wp2_with fail
  clear x0 q3;obtain⟨x0,-,-,-⟩:=mo.out _ TF.out;have q3:=afH;rw[hF0] at q3;obtain⟨bb,Sj⟩:∃ bb,Fk.heap.size=bb:=⟨_,rfl⟩;rw[Sj] at Zw I' acj ⊢;have aob:=lh (show pb<=bb by rw[<-Sj];exact Qc TQ af2.out);generalize Fk.alloc (.cells #[.int .i64 (f:Nat),.int .i64 (F0:Nat)] 3)=KM at *;clear Ex Sj afH;have HWB:=lh (show ∀ d∈wy,0<=d/\d<4294967296 from fun d hd=>by
   have h1:=HWD.out d hd;have h2:=ir.out;omega)
  have ZF:=lh (show ∀ d∈o.take j1++Plain.twins wy,0<=d/\d / 2<g.e.length from fun d hd=>by
   rcases Qh.1 hd with r | r
   ·exact HOD.out d (Qr r)
   have h1:=HWD.out _ (Plain.eO.1 r);have h2:=Plain.bA d;omega)
  have Y5:=lh (show ∀ d∈wy++o.drop j1,0<=d/\d / 2<g.e.length from fun d hd=>by
   rcases Qh.1 hd with r | r
   ·exact HWD.out d r
   exact HOD.out d (Qq r))
  have Xo:(o.take j1++Plain.twins wy).length<=1000000:=by rw[Qe];omega
  have Zi:(wy++o.drop j1).length<=1000000:=by rw[Qe];omega
  have abE:wy.length<=1000000:=by omega
  obtain⟨L1,hL1⟩:∃ L1,o.take j1++Plain.twins wy=L1:=⟨_,rfl⟩;have Ss:=lh hL1;obtain⟨L2,FW⟩:∃ L2,wy++o.drop j1=L2:=⟨_,rfl⟩;have HL2:=lh FW;obtain⟨tw,q9⟩:∃ tw,Plain.twins wy=tw:=⟨_,rfl⟩;have HTW:=lh q9;rw[hL1] at ZF Xo;rw[FW] at Y5 Zi;rw[q9] at PV;clear hL1 FW q9;have pX:f*2+1<cs.size:=by omega
  have aD:ai [] KM KM.drew:=(ai.refl [] KM).drew;refine au (ai [] KM) [0,1,2,3,4,5,6,7,8,9,14] (Way.line [0,1,2,3,4,5,6,7,8,9,10,11,12,13,14,15] .done) (by kernel_rfl) (by kernel_rfl) ?_;simp only[Way.line]
  repeat
   first
    | (refine ar rfl (by rfl) (by rfl) (fun _ _ _ h=>h) aD ?_;simp only[Qb,Z1,Z2,Z3,Z4,Z5,Z6])
    | (refine aq (v:=?_) rfl (by rfl) (by rfl) (fun _ _ _ h=>h) aD (fun w' aK=>?_) ?_;rotate_left;(focus (have fU:=aK.c x0;have gX:=aK.c q3;clear aK;go_simp;try with_reducible rfl));simp only[Qb,Z1,Z2,Z3,Z4,Z5,Z6])
    | (refine ak rfl (by rfl) (by rfl) aD ?_;simp only[Qb,Z1,Z2,Z3,Z4,Z5,Z6])
  refine aC rfl (by rfl) (by rfl) (fun K hK=>?_);go_simp;refine (AO _ wy _ abE HWB.out (ZP.out.ints.fresh aD)).mono ?_;rw[HTW.out];rintro e YV ⟨v13,rfl,hr13,hc13⟩;obtain⟨o13,p13,rfl⟩:=hr13.shape;have bD:ai [] KM YV:=aD.t hc13;refine hK.out _ _ (fun _=>bD) ?_;clear hK K aD hc13
  try simp only[Qb,Z1,Z2,Z3,Z4,Z5,Z6]
  repeat
   first
    | (refine ar rfl (by rfl) (by rfl) (fun _ _ _ h=>h) bD ?_;simp only[Qb,Z1,Z2,Z3,Z4,Z5,Z6])
    | (refine aq (v:=?_) rfl (by rfl) (by rfl) (fun _ _ _ h=>h) bD (fun w' aK=>?_) ?_;rotate_left;(focus (have fU:=aK.c x0;have gX:=aK.c q3;clear aK;go_simp;try with_reducible rfl));simp only[Qb,Z1,Z2,Z3,Z4,Z5,Z6])
    | (refine ak rfl (by rfl) (by rfl) bD ?_;simp only[Qb,Z1,Z2,Z3,Z4,Z5,Z6])
  refine aC rfl (by rfl) (by rfl) (fun K hK=>?_);go_simp;refine hK.out _ _ (fun _=>bD.alloc (.cells #[.slice (some ⟨gb,0,none⟩) j1 p9,.slice o13 tw.length p13] 25)) ?_;clear hK K
  try simp only[Qb,Z1,Z2,Z3,Z4,Z5,Z6]
  refine aC rfl (by rfl) (by rfl) (fun K hK=>?_);go_simp;refine (oA (.slice (some ⟨gb,0,none⟩) j1 p9) (.slice o13 tw.length p13) (o.take j1) tw YV ((zQ Yp.out Zo).fresh bD) hr13.ints PV).mono ?_;have anG:=lh (show o.take j1++tw=L1 by rw[<-HTW.out];exact Ss.out);rw[anG.out];rintro e OH ⟨v14,rfl,hr14,hc14⟩;obtain⟨o14,p14,rfl⟩:=hr14.shape;have iz:ai [] KM OH:=bD.t hc14;refine hK.out _ _ (fun _=>iz) ?_;clear hK K hc14
  try simp only[Qb,Z1,Z2,Z3,Z4,Z5,Z6]
  refine aC rfl (by rfl) (by rfl) (fun K hK=>?_);go_simp;refine (nc sb N _ _ g L1 OH (O8.out.fresh iz).zl Xo ZF.out hr14.ints).mono ?_;rintro e Tv ⟨eG,rfl,hbb1,hc15⟩;have jv:ai [] KM Tv:=iz.t hc15;refine hK.out _ _ (fun _=>jv) ?_;clear hK K
  try simp only[Qb,Z1,Z2,Z3,Z4,Z5,Z6]
  repeat
   first
    | (refine ar rfl (by rfl) (by rfl) (fun _ _ _ h=>h) jv ?_;simp only[Qb,Z1,Z2,Z3,Z4,Z5,Z6])
    | (refine aq (v:=?_) rfl (by rfl) (by rfl) (fun _ _ _ h=>h) jv (fun w' aK=>?_) ?_;rotate_left;(focus (have fU:=aK.c x0;have gX:=aK.c q3;clear aK;go_simp;try with_reducible rfl));simp only[Qb,Z1,Z2,Z3,Z4,Z5,Z6])
    | (refine ak rfl (by rfl) (by rfl) jv ?_;simp only[Qb,Z1,Z2,Z3,Z4,Z5,Z6])
  refine aC rfl (by rfl) (by rfl) (fun K hK=>?_);simp only[Qm,Qj,Qk];refine My (.tmp 125) (.tmp 124) rfl rfl rfl (jv.heap WV.out (by simp)) pX ?_;refine hK.out _ _ (fun h=>absurd h (Qi.1 (by kernel_rfl))) ?_;clear hK K
  try simp only[Qb]
  refine aB ?_;have ajO:pb<=KM.heap.size:=Qc TQ TF.out.size;have acQ:=(hr14.aM hc15 (by simp)).base (B:=w0.heap.size) (Qc (O8.out.aM.size) bD.size);have Wh:=hbb1.base (B:=w0.heap.size) (Qc (O8.out.aM.size) iz.size);have ZZ:=(NG.out.fresh jv).put (v:=.slice o14 L1.length p14) (hb:=eG) HP.out.fF acQ Wh;have qI:∀ j∈[fb],bI Tv j 147:=fun j hj=>by rw[Qa.1 hj];exact cf (NG.out.fresh jv).out rfl
  have Ga:nH ob ((xs.set (2*f) (.slice o14 L1.length p14)).set (2*f+1) (.slice (some ⟨eG,0,none⟩) N N)) yM:=by
   have xp:=NG.out.len;have aug:=HP.out.fF;refine (V8.out.put (by omega) fun b hb=>X'.out b ?_).put (by rw[Qz];omega) fun b hb=>X'.out b ?_
   ·have h1:=(hr14.low b (by rw[hb];simp)).1
    have h2:=bD.size;omega
   have:eG=b:=by simpa[Qd] using hb
   have h1:=hbb1.lt.1;have h2:=iz.size;omega
  rw[Qs 2 f] at ZZ Ga;have bw:ai [fb] Tv ((Tv.setCell ⟨fb,f*2,none⟩ (.slice o14 L1.length p14)).setCell ⟨fb,f*2+1,none⟩ (.slice (some ⟨eG,0,none⟩) N N)):=((ai.refl _ _).setCell (Qf (by simp)) _).setCell (Qf (by simp)) _;have SV:=O8.out.fresh jv;have afB:sb ∉ [fb]:=fun q=>SV.kind.ne (qI sb q) (by decide) rfl;have acU:ob ∉ [fb]:=fun q=>SV.on.dg.ne (qI ob q) (by decide) rfl;have U4:=(NG.out.out.lt fb rfl);have EP:=lh (SV.more bw (by simpa using U4.1) afB acU);have aga:=lh ((Vd.out.fresh jv).others bw (fun j hj=>⟨_,qI j hj,by decide,by decide⟩));have bd:∀ {B:Nat} {v:Value} {l:List Int},ax KM B v l->ax ((Tv.setCell ⟨fb,f*2,none⟩ (.slice o14 L1.length p14)).setCell ⟨fb,f*2+1,none⟩ (.slice (some ⟨eG,0,none⟩) N N)) B v l:=fun {B} {v} {l} hr=>by
   have h1:=hr.aM jv (by simp);exact h1.aM bw (fun b hb hm=>(h1.dg (by simpa using hb)).ne (qI b hm) (by decide) rfl)
  have afS:=lh (bd ae7.out);have XD:=lh (bd ZP.out);have aeC:=lh (bd Yp.out);have Y8:=lh ((TF.out.t jv).trans bw (fun j hj=>Qf (by rw[Qa.1 hj];exact gh.out.2.2.2.1 fb rfl)));have B9:=lh ZZ;have FM:=lh Ga;have acT:bb ∉ [fb]:=fun q=>by
   have h1:bI Tv bb 3:=by
    have h2:bI KM bb 3:=⟨_,_,I'.out⟩;exact h2.aM jv (by simp)
   exact h1.ne (qI bb q) (by decide) rfl
  have PB:=lh (bw.heap (jv.heap I'.out (by simp)) acT);have apn:=lh (Qc Wf.out (Qc jv.size bw.size));have ags:=Qc ajO (Qc jv.size bw.size);clear bw bd SV qI ZZ Ga acQ Wh hr14 hbb1 hr13 bD iz jv hc15 afB acU acT O8 Vd ae7 ZP Yp TF NG I' Wf WV x0 q3 PV Xo ZF pX akp acj;generalize (Tv.setCell ⟨fb,f*2,none⟩ (.slice o14 L1.length p14)).setCell ⟨fb,f*2+1,none⟩ (.slice (some ⟨eG,0,none⟩) N N)=vJ at *;obtain⟨xs1,ad8⟩:∃ xs1,((xs.set (f*2) (.slice o14 L1.length p14)).set (f*2+1) (.slice (some ⟨eG,0,none⟩) N N))=xs1:=⟨_,rfl⟩;rw[ad8] at B9 FM;clear ad8;obtain⟨F1,z'⟩:∃ F1,s.aj.set f L1=F1:=⟨_,rfl⟩;have Yj:=lh z';have X2:F1.length=F0:=by rw[<-z',Qz];exact SI.out
  rw[z'] at B9;rw[SI.out] at B9 EP;clear z';obtain⟨x0,-,-,-⟩:=mo.out _ Y8.out;have q3:=EP.out.q3;have qI:bI vJ fb 147:=cf B9.out.out rfl;have RI:pb ∉ [fb]:=by
   rw[Qa];intro e;have h1:=(gh.out.1 fb (gh.out.2.2.2.1 fb rfl)).2;have h2:=rJ.out;omega
  have GG:sb ∉ [fb]:=fun q=>EP.out.kind.ne (by rw[Qa.1 q];exact qI) (by decide) rfl;have agI:ob ∉ [fb]:=fun q=>EP.out.on.dg.ne (by rw[Qa.1 q];exact qI) (by decide) rfl;have U4:=(B9.out.out.lt fb rfl).1;have an8:F0<68719476736:=by omega
  have HB0:=lh (show w0.heap.size<=vJ.heap.size from EP.out.aM.size);have Hx:=B9.out.out;rw[X2] at Hx;have OV:=lh Hx;have XX:=lh X2;clear Hx qI X2
  go_wp2_with fail
  have aD:ai [fb] vJ vJ.drew:=(ai.refl [fb] vJ).drew;refine au (ai [fb] vJ) [0,1,2,3,4,5,6,7,8,9,15,16] (Way.line [0,1,2,3,4,5,6,7,8,9,10,11,12,13,14,15,16,17] .done) (by kernel_rfl) (by kernel_rfl) ?_;simp only[Way.line];have BY:ai [] vJ vJ.drew:=(ai.refl [] vJ).drew
  repeat
   first
    | (refine ar rfl (by rfl) (by rfl) (fun _ _ _ h=>h) aD ?_;simp only[Qb,Z1,Z2,Z3,Z4,Z5,Z6])
    | (refine aq (v:=?_) rfl (by rfl) (by rfl) (fun _ _ _ h=>h) aD (fun w' aK=>?_) ?_;rotate_left;(focus (have fU:=aK.cell x0 (by first | exact RI | exact GG);have gX:=aK.cell q3 (by first | exact RI | exact GG);clear aK;go_simp;try with_reducible rfl));simp only[Qb,Z1,Z2,Z3,Z4,Z5,Z6])
    | (refine ak rfl (by rfl) (by rfl) aD ?_;simp only[Qb,Z1,Z2,Z3,Z4,Z5,Z6])
  refine aC rfl (by rfl) (by rfl) (fun K hK=>?_);go_simp;refine hK.out _ _ (fun _=>aD.alloc (.cells #[.slice (some ⟨wb,0,none⟩) wy.length p4,.slice (some ⟨gb,j1,none⟩) (o.length - j1) (p9 - j1)] 25)) ?_;clear hK K
  try simp only[Qb,Z1,Z2,Z3,Z4,Z5,Z6]
  refine aC rfl (by rfl) (by rfl) (fun K hK=>?_);go_simp;refine (oA (.slice (some ⟨wb,0,none⟩) wy.length p4) (.slice (some ⟨gb,j1,none⟩) (o.length - j1) (p9 - j1)) wy (o.drop j1) vJ.drew (XD.out.ints.fresh BY) ((Au aeC.out Zo).fresh BY) SN).mono ?_;rw[HL2.out];rintro e w17 ⟨v17,rfl,hr17,hc17⟩;obtain⟨o17,p17,rfl⟩:=hr17.shape;have bD:ai [fb] vJ w17:=aD.t hc17;have tk:ai [] vJ w17:=BY.t hc17;refine hK.out _ _ (fun _=>bD) ?_;clear hK K hc17
  try simp only[Qb,Z1,Z2,Z3,Z4,Z5,Z6]
  refine aC rfl (by rfl) (by rfl) (fun K hK=>?_);go_simp;refine (nc sb N _ _ g L2 w17 (EP.out.fresh tk).zl Zi Y5.out hr17.ints).mono ?_;rintro e RW ⟨fh,rfl,hbb2,hc18⟩;have iz:ai [fb] vJ RW:=bD.t hc18;have GD:ai [] vJ RW:=tk.t hc18;refine hK.out _ _ (fun _=>iz) ?_;clear hK K
  try simp only[Qb,Z1,Z2,Z3,Z4,Z5,Z6]
  refine aC rfl (by rfl) (by rfl) (fun K hK=>?_);go_simp;refine hK.out _ _ (fun _=>iz.alloc (.cells #[.slice o17 L2.length p17,.slice (some ⟨fh,0,none⟩) N N] 147)) ?_;clear hK K
  try simp only[Qb,Z1,Z2,Z3,Z4,Z5,Z6]
  obtain⟨Nb,Xx,Wd,afl,afz,ZQ,ajJ⟩:=rM Im (w:=RW.alloc (.cells #[.slice o17 L2.length p17,.slice (some ⟨fh,0,none⟩) N N] 147)) (bE OV.out GD (by simp)) (Qc HB0.out GD.size) (cs:=#[.slice o17 L2.length p17,.slice (some ⟨fh,0,none⟩) N N]) rfl (by intro u hu;simp at hu;rcases hu with rfl | rfl <;> rfl) an8 (Qf rfl) 82;have af3:=lh afl;have jv:ai [fb] vJ Wd:=iz.trans ZQ (fun j hj=>Qf (by simpa[Qd] using hj));clear afl;refine aC rfl (by rfl) (by rfl) (fun K hK=>?_);simp only[Qm,Qj,Qk];refine oZ (.tmp 130) (.tmp 139) 82 rfl rfl rfl af3.out ?_;refine hK.out _ _ (fun _=>jv) ?_;clear hK K
  try simp only[Qb,Qn,Qu,Qv]
  repeat
   first
    | (refine ar rfl (by rfl) (by rfl) (fun _ _ _ h=>h) jv ?_;simp only[Qb,Z1,Z2,Z3,Z4,Z5,Z6])
    | (refine aq (v:=?_) rfl (by rfl) (by rfl) (fun _ _ _ h=>h) jv (fun w' aK=>?_) ?_;rotate_left;(focus (have fU:=aK.cell x0 (by first | exact RI | exact GG);have gX:=aK.cell q3 (by first | exact RI | exact GG);clear aK;go_simp;try with_reducible rfl));simp only[Qb,Z1,Z2,Z3,Z4,Z5,Z6])
    | (refine ak rfl (by rfl) (by rfl) jv ?_;simp only[Qb,Z1,Z2,Z3,Z4,Z5,Z6])
  have TI:=EP.out.more jv (by simpa using U4) GG agI;have s3:=jv.cell q3 GG;have f3:=TI.free 3;refine aC rfl (by rfl) (by rfl) (fun K hK=>?_);go_simp;refine hK.out _ _ (fun h=>absurd h (Qi.1 (by kernel_rfl))) ?_;clear hK K
  try simp only[Qb,Z1,Z2,Z3,Z4,Z5,Z6]
  refine aB ?_;have ab3:=(hr17.aM hc18 (by simp)).base (B:=w0.heap.size) HB0.out;have W8:=hbb2.base (B:=w0.heap.size) (Qc HB0.out tk.size);have YF:=cR.add (w':=Wd) (fb:=Nb) (c:=Xx) (B9.out.fresh GD) ab3 W8 (by rw[XX.out];simpa using afz) ZQ;rw[XX.out] at YF;have rn:∀ j∈[sb],bI Wd j 85:=fun j hj=>by rw[Qa.1 hj];exact TI.kind
  have qI:∀ j∈[fb],bI vJ j 147:=fun j hj=>by rw[Qa.1 hj];exact cf B9.out.out rfl
  have bw:ai [sb] Wd (Wd.setCell ⟨sb,3,none⟩ (.slice (some ⟨Nb,0,none⟩) (F0+1) Xx)):=(ai.refl _ _).setCell (Qf (by simp)) _;have KE:=lh (TI.aiz (.slice (some ⟨Nb,0,none⟩) (F0+1) Xx));have GW:=lh (YF.other bw (fun j hj=>⟨_,rn j hj,by decide,by decide,by decide⟩));have G4:=lh ((aga.out.others jv (fun j hj=>⟨_,qI j hj,by decide,by decide⟩)).others bw (fun j hj=>⟨_,rn j hj,by decide,by decide⟩));have bd:∀ {B:Nat} {v:Value} {l:List Int},ax vJ B v l->ax (Wd.setCell ⟨sb,3,none⟩ (.slice (some ⟨Nb,0,none⟩) (F0+1) Xx)) B v l:=fun {B} {v} {l} hr=>by
   have h1:=hr.aM jv (fun b hb hm=>(hr.dg (by simpa using hb)).ne (qI b hm) (by decide) rfl);exact h1.aM bw (fun b hb hm=>(h1.dg (by simpa using hb)).ne (rn b hm) (by decide) rfl)
  have aej:=lh (bd afS.out);have ad0:=lh (bd XD.out);have iM:bI vJ bb 3:=⟨_,_,PB.out⟩;have PR:=jv.heap PB.out (fun q=>iM.ne (qI bb q) (by decide) rfl);have Wl:bI Wd bb 3:=⟨_,_,PR⟩;have OX:=lh (bw.heap PR (fun q=>Wl.ne (rn bb q) (by decide) rfl));have adB:=lh ((Y8.out.trans jv (fun j hj=>Qf (by rw[Qa.1 hj];exact gh.out.2.2.2.1 fb rfl))).trans bw (fun j hj=>Qf (by rw[Qa.1 hj];exact gh.out.2.1)));have Ha:=lh (show nH ob (xs1++[.slice o17 L2.length p17,.slice (some ⟨fh,0,none⟩) N N]) yM from FM.out.add (fun k b hk hb=>X'.out b (by
   have hz:=tk.size;rcases (show k=0\/k=1 by simp at hk;omega) with rfl | rfl
   ·have h1:=(hr17.low b (by
     have:(QB o17 L2.length p17).ownBlock=some b:=hb;rw[this];simp)).1
    have h2:vJ.drew.heap.size=vJ.heap.size:=rfl;omega
   have:fh=b:=by simpa[Qd] using hb
   have h1:=hbb2.lt.1;omega)))
  have awd:=Qc ags (Qc jv.size bw.size);clear bw bd rn qI YF ab3 W8 hr17 hbb2 aD BY tk GD bD iz jv hc18 afz ZQ ajJ TI s3 f3 iM PR Wl x0 q3 af3 EP B9 aga afS XD aeC Y8 FM PB OV HB0 ags RI GG agI U4 SN Zi Y5 Zo alo akC anR aj9;generalize Wd.setCell ⟨sb,3,none⟩ (.slice (some ⟨Nb,0,none⟩) (F0+1) Xx)=w20 at *;obtain⟨Ig,agr⟩:∃ Ig,xs1++[.slice o17 L2.length p17,.slice (some ⟨fh,0,none⟩) N N]=Ig:=⟨_,rfl⟩;obtain⟨F2,SP⟩:∃ F2,F1++[L2]=F2:=⟨_,rfl⟩;have qg:=lh SP;rw[agr] at GW Ha;rw[SP] at GW;have TM:=lh (show F2.length=F0+1 by rw[<-SP,Qe,XX.out];rfl);clear agr SP
  -- the cr,one by one
  obtain⟨R1,Rc⟩:∃ R1,s.rest.eraseIdx i=R1:=⟨_,rfl⟩;have amN:=lh Rc;have Zm:n1=R1.length:=by rw[<-Rc];exact ZN.out.symm
  rw[Rc] at G4;have HRF:=lh (show ∀ r∈R1,(∀ v∈r.ends,0<=v/\v<N)/\r.ends.length<=1024/\r.aj.length<=2050 from fun r hr=>HP.out.rest r (by rw[<-Rc] at hr;exact List.mem_of_mem_eraseIdx hr));have avF:n1<=1024:=by
   have h1:=HP.out.rl;have h2:=ZN.out;have h3:=Qy s.rest i;omega
  clear Rc;obtain⟨np,zf⟩:∃ np:List Nat,Hid ((∀ j∈np,j=rb\/∃ l,l<yM.length/\(yM.getD l undef).ownBlock=some j)/\rb∈np/\∀ l b,l<yM.length->(yM.getD l undef).ownBlock=some b->b∈np):=by
   refine⟨rb :: (QE yM.length).flatMap fun l=>(yM.getD l undef).ownBlock.toList,lh ⟨fun j hj=>?_,by simp,fun l b hl hb=>?_⟩⟩
   ·simp only[Ql,Qp,Qt] at hj
    rcases hj with r | ⟨l,hl,r⟩
    ·exact Qf r
    exact Qw ⟨l,hl,by simpa using r⟩
   simp only[Ql,Qp,Qt];exact Qw ⟨l,hl,by rw[hb];simp⟩
  have Am:=lh (show ∀ j∈np,j∈own from fun j hj=>by
   rcases zf.out.1 j hj with r | ⟨l,hl,r⟩
   ·rw[r];exact gh.out.2.2.2.2.1
   exact aeF.out l j hl r)
  have TA:=lh (show ∀ j∈np,bI w20 j 151\/bI w20 j 3 from fun j hj=>by
   rcases zf.out.1 j hj with r | ⟨l,hl,r⟩
   ·rw[r];exact Qf (cf G4.out.out rfl)
   have:=G4.out.kind hl r;exact Qw this.2.2)
  have anl:=lh (show sb ∉ np from fun q=>(TA.out sb q).elim (fun h=>KE.out.kind.ne h (by decide) rfl) (fun h=>KE.out.kind.ne h (by decide) rfl));have anI:=lh (show ob ∉ np from fun q=>(TA.out ob q).elim (fun h=>KE.out.on.dg.ne h (by decide) rfl) (fun h=>KE.out.on.dg.ne h (by decide) rfl));have acn:=lh (show Nb ∉ np from fun q=>(TA.out Nb q).elim (fun h=>(cf GW.out.out rfl).ne h (by decide) rfl) (fun h=>(cf GW.out.out rfl).ne h (by decide) rfl));have UE:=lh (show ∀ k b,k<Ig.length->(Ig.getD k undef).ownBlock=some b->b ∉ np from fun k b hk hb q=>by
   rcases zf.out.1 b q with r | ⟨l,hl,r⟩
   ·have h1:=(GW.out.kinds hk hb).2.2
    rw[r] at h1;have h2:bI w20 rb 151:=cf G4.out.out rfl;exact h1.elim (fun h=>h2.ne h (by decide) rfl) (fun h=>h2.ne h (by decide) rfl)
   exact Ha.out.y k l b hk hl hb r)
  have ajS:=lh (show ∀ b,(QB o0 c.ah.length p0).ownBlock=some b->b ∉ np from fun b hb q=>by
   rcases zf.out.1 b q with r | ⟨l,hl,r⟩
   ·have h2:bI w20 rb 151:=cf G4.out.out rfl
    have h3:=aej.out.dg hb;rw[r] at h3;exact h2.ne h3 (by decide) rfl
   exact ajl.out l b hl r hb)
  have akw:=lh (show wb ∉ np from fun q=>by
   have h1:=(gh.out.1 wb (Am.out wb q)).2;have h2:=rJ.out;have h3:=amT.out;omega)
  have ZS:=lh (show bb ∉ np from fun q=>by
   have h1:=(gh.out.1 bb (Am.out bb q)).2;have h2:=rJ.out;have h3:=aob.out;omega)
  obtain⟨T,hT⟩:∃ T,Plain.eW g F2 (f:Int) (F0:Int)=T:=⟨_,rfl⟩;have HTR:=lh hT;have zo:=lh (show ∀ r:Plain.bj,(f:Int)∈r.aj->T r=⟨r.ah,r.ends,r.aj.erase (f:Int)++Plain.ic g F2 r.ends [(f:Int),(F0:Int)]⟩ from fun r h=>by rw[<-hT];exact Ku h);have afA:=lh (show ∀ r:Plain.bj,(f:Int) ∉ r.aj->T r=r from fun r h=>by rw[<-hT];exact Hg h);have mU:=lh (show ∀ j,j<=n1->(iB T R1 j).length=n1 from fun j hj=>by rw[CL (by omega)];exact Zm.symm);have ac1:=lh Zm;have arH:=lh (show wb<w20.heap.size/\bb<w20.heap.size from⟨(ad0.out.low wb (by simp[Qd])).2,(show bI w20 bb 3 from⟨_,_,OX.out⟩).lt⟩);have ap1:=G4.out.cells;clear hT Zm;have q4:=KE.out.q4;obtain⟨x0,-,-,-⟩:=mo.out _ adB.out
  go_wp2_with fail
  clear x0 q4
  go_loopw [15,16,17,148] (fun _ _ _ cj wx=>∃ j:Nat,j<=n1/\cj=.int .i64 j/\∃ zs,bF wx w0.heap.size 151 3 (.slice (some ⟨rb,0,none⟩) n1 rc) n1 zs (dF (iB T R1 j))/\Hid (∀ l b,l<zs.length->(zs.getD l undef).ownBlock=some b->b∈np\/w20.heap.size<=b)/\Hid (∀ l,3*j<=l->zs.getD l undef=yM.getD l undef)/\ai np w20 wx) (fun _ _ _ cj _=>n1 - (intOf cj).toNat)
  case atStart=>exact⟨0,QD _,rfl,yM,by rw[Ko];exact G4.out,lh (fun l b hl hb=>Qf (zf.out.2.2 l b hl hb)),lh (fun _ _=>rfl),ai.refl _ _⟩
  case round =>
   obtain⟨j,hj,rfl,zs,IQ,HZL,HZS,Kx⟩:=hrel;have Y4:=lh IQ;have Ws:=lh Kx;have X9:=adB.out.trans Kx (fun k hk=>Qf (Am.out k hk));have HTZ:=lh X9;have hbz:=KE.out.more Kx (fun k hk=>(gh.out.1 k (Am.out k hk)).1) anl.out anI.out;have Zb:=lh hbz;have WH:=lh (GW.out.aM Kx (fun b hb=>by
    have e:Nb=b:=by simpa[Qd] using hb
    rw[<-e];exact acn.out) UE.out)
   obtain⟨x0,-,-,-⟩:=mo.out _ X9;have q4:=hbz.q4;have V6:=IQ.cells;by_cases aU:j<n1
   ·obtain⟨r,hr⟩:∃ r,R1.getD j ⟨[],[],[]⟩=r:=⟨_,rfl⟩
    have Tc:j<R1.length:=by have:=ac1.out;omega
    have KW:r∈R1:=by rw[<-hr];simp[Qx,Tc]
    obtain⟨t0,t1,t2⟩:=Br (R:=iB T R1 j) (j:=j) (by rw[mU.out j hj];exact aU);rw[Bk Tc,hr] at t0 t1 t2;have k1:=IQ.cell (k:=3*j+1) (by omega);have k2:=IQ.cell (k:=3*j+2) (by omega);have m1:=IQ.row t1;have m2:=IQ.row t2;rw[Qs 3 j] at k1 k2 m1 m2 t2;obtain⟨u1,Ik⟩:∃ u,zs.getD (j*3+1) undef=u:=⟨_,rfl⟩;obtain⟨u2,Cl⟩:∃ u,zs.getD (j*3+2) undef=u:=⟨_,rfl⟩;rw[Ik] at k1 m1;rw[Cl] at k2 m2;have Wz:∀ b,u1.ownBlock=some b->u2.ownBlock≠some b:=fun b h1 h2=>by
     rcases IQ.apart (j*3+1) (j*3+2) (by omega) (by omega) (by omega) with q | q
     ·rw[Ik,h1] at q;cases q
     rw[Ik,Cl,h1,h2] at q;exact q rfl
    have afT:∀ b,u2.ownBlock=some b->b∈np:=fun b hb=>by
     rw[<-Cl,HZS.out _ (by omega)] at hb;exact zf.out.2.2 _ b (by omega) hb
    obtain⟨o1,c1,rfl⟩:=m1.shape;obtain⟨o2,c2,rfl⟩:=m2.shape;have Bb:=lh m1;have mD:=lh m2;have Ou:=lh t2;have HU2:=lh Cl;have aep:=lh Wz;have amS:=lh afT;have YZ:=lh (HRF.out r KW);have amx:r.aj.length<1000000000:=by have:=YZ.out.2.2;omega
    have lp:(j:Int)<(n1:Int):=by omega
    have HJR:=lh Tc;have Vb:=lh hr;clear hr Tc KW t0 t1 t2 Ik Cl Wz afT m1 IQ Kx X9 hbz
    go_wp2_with fail
    refine (Rn _ r.aj (f:Int) _ _ amx m2).mono ?_;rintro e Vc ⟨rfl,hc22⟩;by_cases hfm:(f:Int)∈r.aj
    ·obtain⟨e1,e2,e3⟩:=Plain.UU hfm
     rw[e1];obtain⟨kx,hkx⟩:∃ kx,r.aj.idxOf (f:Int)=kx:=⟨_,rfl⟩;rw[hkx] at e2 e3 ⊢;obtain⟨gg,eg,-⟩:=m2.some (by omega);subst eg;have Gy:=amS.out gg rfl;have XC:=m2.dg (b:=gg) rfl;have A8:pb ∉ [gg]:=by
      rw[Qa];intro q;have h1:=(gh.out.1 gg (Am.out gg Gy)).2;have h2:=rJ.out;omega
     have yy:rb ∉ [gg]:=by
      rw[Qa];exact (cf Y4.out.out rfl).ne XC (by decide)
     have ai1:sb ∉ [gg]:=by
      rw[Qa];exact Zb.out.kind.ne XC (by decide)
     have anC:ob ∉ [gg]:=by
      rw[Qa];exact Zb.out.on.dg.ne XC (by decide)
     have anM:bb ∉ [gg]:=by
      rw[Qa];exact fun q=>ZS.out (q ▸ Gy)
     have wk:IntKind.i64.wrap ((kx:Int)+1)=(kx:Int)+1:=IntWalk.i64_in _ (by omega);have hkp:(0:Int)<=(kx:Int):=by omega
     obtain⟨E1,hE1⟩:∃ E1,r.aj.eraseIdx kx=E1:=⟨_,rfl⟩;have HE1:=lh hE1;have at2:E1.length<=2050:=by
      have:=Qy r.aj kx;have:=YZ.out.2.2;rw[<-hE1];omega
     obtain⟨FT,hFT⟩:∃ FT,Plain.ic g F2 r.ends [(f:Int),(F0:Int)]=FT:=⟨_,rfl⟩;have A9:=lh hFT;have au8:FT.length<=2:=by
      rw[<-hFT];unfold Plain.ic;exact QA _ _
     obtain⟨JR,Yl⟩:∃ JR,E1++FT=JR:=⟨_,rfl⟩;have ajI:=lh Yl;have iw:E1.length+FT.length<4294967296:=by omega
     have Oj:=lh (show T r=⟨r.ah,r.ends,JR⟩ by rw[zo.out r hfm,<-Yl,<-hFT,<-hE1,e3]);have PI:∀ x∈[(f:Int),(F0:Int)],0<=x/\x<(F2.length:Int):=fun x hx=>by
      have h1:=TM.out;rcases Ql.1 hx with q | q
      ·rw[q];omega
      rw[Qa.1 q];omega
     have ZW:=lh PI;have Xy:F2.length<1000000:=by have:=TM.out;omega
     have hrel:r.ends.length<1000000:=by have:=YZ.out.2.1;omega
     have hIF:bn (f:Int):=bn.mk (by omega) (by omega);have Yk:bn (F0:Int):=bn.mk (by omega) (by omega);have y0:=hc22.c x0;have y1:=hc22.c k1;have y2:=hc22.c k2;have TO:=lh (Y4.out.fresh hc22);have al9:=lh (Zb.out.fresh hc22);have am7:=lh (WH.out.fresh hc22);have abF:=lh (Bb.out.aM hc22 (by simp));have acX:=lh (m2.aM hc22 (by simp));have PH:=lh (Ws.out.t hc22);clear hkx e1 e3 hE1 hFT Yl PI hc22 k1 k2 m2 x0 q4 XC hfm
     go_wp2_with fail
     have aD:ai [gg] Vc Vc.drew:=(ai.refl [gg] Vc).drew;refine au (ai [gg] Vc) [0,1,2,3,4,5,6,7,9,10,11,12,13,14,17,18] (Way.line [0,1,2,3,4,5,6,7,9,10,11,12,13,14,8,15,16,17,18,19] .done) (by kernel_rfl) (by kernel_rfl) ?_;simp only[Way.line]
     repeat
      first
       | (refine ar rfl (by rfl) (by rfl) (fun _ _ _ h=>h) aD ?_;simp only[Qb,Z1,Z2,Z3,Z4,Z5,Z6])
       | (refine aq (v:=?_) rfl (by rfl) (by rfl) (fun _ _ _ h=>h) aD (fun w' aK=>?_) ?_;rotate_left;(focus (have fU:=aK.cell y0 (by first | exact A8 | exact yy);have gX:=aK.cell y1 (by first | exact A8 | exact yy);have nP:=aK.cell y2 (by first | exact A8 | exact yy);clear aK;go_simp;try with_reducible rfl));simp only[Qb,Z1,Z2,Z3,Z4,Z5,Z6])
       | (refine ak rfl (by rfl) (by rfl) aD ?_;simp only[Qb,Z1,Z2,Z3,Z4,Z5,Z6])
     refine aC rfl (by rfl) (by rfl) (fun K hK=>?_);go_simp;refine (Oz gg c2 kx w0.heap.size r.aj Vc.drew (acX.out.aM (ai.refl [] Vc).drew (by simp)) e2).mono ?_;rw[HE1.out];rintro e w23 ⟨rfl,hr23,hc23⟩;have bD:ai [gg] Vc w23:=aD.trans hc23 (fun k hk=>Qf hk);refine hK.out _ _ (fun _=>bD) ?_;clear hK K aD hc23
     try simp only[Qb,Z1,Z2,Z3,Z4,Z5,Z6]
     repeat
      first
       | (refine ar rfl (by rfl) (by rfl) (fun _ _ _ h=>h) bD ?_;simp only[Qb,Z1,Z2,Z3,Z4,Z5,Z6])
       | (refine aq (v:=?_) rfl (by rfl) (by rfl) (fun _ _ _ h=>h) bD (fun w' aK=>?_) ?_;rotate_left;(focus (have fU:=aK.cell y0 (by first | exact A8 | exact yy);have gX:=aK.cell y1 (by first | exact A8 | exact yy);have nP:=aK.cell y2 (by first | exact A8 | exact yy);clear aK;go_simp;try with_reducible rfl));simp only[Qb,Z1,Z2,Z3,Z4,Z5,Z6])
       | (refine ak rfl (by rfl) (by rfl) bD ?_;simp only[Qb,Z1,Z2,Z3,Z4,Z5,Z6])
     have XO:=al9.out.more bD (by simpa using (gh.out.1 gg (Am.out gg Gy)).1) ai1 anC;have aeE:=am7.out.aM bD (fun b hb hm=>by
      have e:Nb=b:=by simpa[Qd] using hb
      rw[Qa] at hm;exact acn.out (by rw[e,hm];exact Gy)) (fun k b hk hb hm=>by
      rw[Qa] at hm;exact UE.out k b hk hb (by rw[hm];exact Gy))
     have af6:=abF.out.aM bD (fun b hb hm=>by
      rw[Qa] at hm;exact aep.out b (by simpa using hb) (by rw[hm];rfl))
     have V9:=bD.heap (PH.out.heap OX.out ZS.out) anM;refine aC rfl (by rfl) (by rfl) (fun K hK=>?_);go_simp;refine (tE sb N w0.heap.size _ _ _ g F2 Ig r.ends [(f:Int),(F0:Int)] w23 XO.q3 aeE hrel (by simp) YZ.out.1 ZW.out Xy af6.ints (JW V9 hIF Yk)).mono ?_;rw[A9.out];rintro e w24 ⟨v24,rfl,hr24,hc24⟩;obtain⟨o24,p24,rfl⟩:=hr24.shape;have iz:ai [gg] Vc w24:=bD.t hc24;refine hK.out _ _ (fun _=>iz) ?_;clear hK K
     try simp only[Qb,Z1,Z2,Z3,Z4,Z5,Z6]
     refine aC rfl (by rfl) (by rfl) (fun K hK=>?_);simp only[Qm,Qj,Qk];refine PY (v:=.slice (some ⟨gg,0,none⟩) E1.length c2) (u:=.slice o24 FT.length p24) (.tmp 173) (.tmp 180) rfl rfl rfl (hr23.aM hc24 (by simp)) hr24 (XO.fresh hc24).aM.size iw (fun v25 w25 r1 r2 r3=>?_);have jv:ai [gg] Vc w25:=iz.trans r2 (fun k hk=>Qf (by simpa[aL,Qd] using hk));rw[ajI.out] at r1;obtain⟨Ve,S8,rfl⟩:=r1.shape;refine hK.out _ _ (fun _=>jv) ?_;clear hK K
     try simp only[Qb,Qn,Qu,Qv]
     repeat
      first
       | (refine ar rfl (by rfl) (by rfl) (fun _ _ _ h=>h) jv ?_;simp only[Qb,Z1,Z2,Z3,Z4,Z5,Z6])
       | (refine aq (v:=?_) rfl (by rfl) (by rfl) (fun _ _ _ h=>h) jv (fun w' aK=>?_) ?_;rotate_left;(focus (have fU:=aK.cell y0 (by first | exact A8 | exact yy);have gX:=aK.cell y1 (by first | exact A8 | exact yy);have nP:=aK.cell y2 (by first | exact A8 | exact yy);clear aK;go_simp;try with_reducible rfl));simp only[Qb,Z1,Z2,Z3,Z4,Z5,Z6])
       | (refine ak rfl (by rfl) (by rfl) jv ?_;simp only[Qb,Z1,Z2,Z3,Z4,Z5,Z6])
     have z2:=jv.cell y2 yy;obtain⟨rcs,hrh⟩:=Ew TO.out.out;have z3:=bJ (jv.heap hrh yy) (j*3+2);refine aC rfl (by rfl) (by rfl) (fun K hK=>?_);go_simp;refine hK.out _ _ (fun h=>absurd h (Qi.1 (by kernel_rfl))) ?_;clear hK K
     try simp only[Qb,Z1,Z2,Z3,Z4,Z5,Z6]
     refine aB ?_;have hzq:j*3+2<zs.length:=by omega
     have Tn:=TO.out.put (q:=j*3+2) (v:=.slice Ve JR.length S8) (by decide) hzq Ou.out r1 (by rw[HU2.out];exact jv) (fun b hb=>by
      rw[HU2.out];rcases r3 b hb with q | q
      ·exact Qf q
      exact Qw (Qc iz.size q))
     have acB:(dF (iB T R1 j)).set (j*3+2) (.row JR)=dF (iB T R1 (j+1)):=by
      have h1:=mU.out j hj;have h2:=Bk (t:=T) HJR.out ⟨[],[],[]⟩;rw[Ag HJR.out ⟨[],[],[]⟩,Vb.out,Oj.out];exact DF (c:=⟨r.ah,r.ends,JR⟩) (by omega) (by rw[h2,Vb.out]) (by rw[h2,Vb.out])
     rw[acB] at Tn;have HNP:=lh Tn;have anz:=lh (show ∀ l b,l<(zs.set (j*3+2) (.slice Ve JR.length S8)).length->((zs.set (j*3+2) (.slice Ve JR.length S8)).getD l undef).ownBlock=some b->b∈np\/w20.heap.size<=b from fun l b hl hb=>by
      rw[Qz] at hl;rw[dW _ _ _ _ _ hzq] at hb;by_cases q:l=j*3+2
      ·rw[if_pos q] at hb
       rcases r3 b (by rw[show aL (.slice Ve JR.length S8)=(QB Ve JR.length S8).ownBlock.toList from rfl,hb];simp) with t | t
       ·left
        have:b=gg:=by simpa[aL,Qd] using t
        rw[this];exact Gy
       right;have h1:=PH.out.size;have h2:=iz.size;omega
      rw[if_neg q] at hb;exact HZL.out l b hl hb)
     have alr:=lh (show ∀ l,3*(j+1)<=l->(zs.set (j*3+2) (.slice Ve JR.length S8)).getD l undef=yM.getD l undef from fun l hl=>by
      rw[dW _ _ _ _ _ hzq,if_neg (by omega)];exact HZS.out l (by omega))
     have vL:=lh (show ai np w20 (w25.setCell ⟨rb,j*3+2,none⟩ (.slice Ve JR.length S8)) from ((PH.out.trans jv (fun k hk=>Qf (by rw[Qa.1 hk];exact Gy))).setCell (p:=⟨rb,j*3+2,none⟩) (Qf zf.out.2.1) _));clear Tn acB bD iz jv r1 r2 r3 hr23 hr24 hc24 XO aeE af6 V9 hrh z2 z3 y0 y1 y2 hzq;generalize w25.setCell ⟨rb,j*3+2,none⟩ (.slice Ve JR.length S8)=w26 at *;generalize zs.set (j*3+2) (.slice Ve JR.length S8)=zs2 at *;go_wp2
     go_roundw
     case rel=>exact⟨j+1,by omega,by go_num,zs2,HNP.out,anz,alr,vL.out⟩
     case measure=>simp[intOf];omega
    have e1:Plain.ixI r.aj (f:Int) = -1:=if_neg hfm;rw[e1];have ab9:=lh (show iB T R1 (j+1)=iB T R1 j from Km HJR.out ⟨[],[],[]⟩ (by rw[Vb.out];exact afA.out r hfm));have TO:=lh (Y4.out.fresh hc22);have PH:=lh (Ws.out.t hc22);clear hc22 k1 k2 m2 x0 q4;go_wp2
    go_roundw
    case rel=>exact⟨j+1,by omega,by go_num,zs,by rw[ab9.out];exact TO.out,HZL,lh (fun l hl=>HZS.out l (by omega)),PH.out⟩
    case measure=>simp[intOf];omega
   have e:j=n1:=by omega
   subst e;have HNR:=lh (show iB T R1 j=R1.map T by rw[ac1.out];exact P0 T R1);have Fi:=aej.out.aM Ws.out (fun b hb hm=>ajS.out b (by simpa using hb) hm);have Fz:=ad0.out.aM Ws.out (fun b hb hm=>by
    have e:b=wb:=by simpa[Qd] using hb
    exact akw.out (by rw[<-e];exact hm))
   have aeh:=Ws.out.heap OX.out ZS.out;have HEZ:=lh Fi;have HWZ:=lh Fz;have ajB:=lh aeh;obtain⟨W,hW⟩:∃ W,Plain.aY c.ah wy=W:=⟨_,rfl⟩;have HWW:=lh hW;have hWl:W.length<=1024:=by
    rw[<-hW];exact Qc (QA _ _) HP.out.Ji
   have aiW:=lh (show ∀ e∈W,0<=e/\e<g.e.length from fun e he=>by
    rw[<-hW] at he;exact HP.out.ah e (Plain.cE.1 he).1)
   obtain⟨SC,RZ⟩:∃ SC,Plain.cr g (Plain.eF g s.on wy) F2 W [(f:Int),(F0:Int)]=SC:=⟨_,rfl⟩;have HSC:=lh RZ;have at6:SC.length<=1024:=by
    rw[<-RZ];exact Qc (Plain.Ly (by rw[<-hW];exact HP.out.part.en.filter _)) hWl
   have HED:=lh (show ∀ e∈c.ah,0<=e/\e<1000000 from fun e he=>by
    have h1:=HP.out.ah e he;have h2:=ir.out;omega)
   have PI:∀ x∈[(f:Int),(F0:Int)],0<=x/\x<(F2.length:Int):=fun x hx=>by
    have h1:=TM.out;rcases Ql.1 hx with q | q
    ·rw[q];omega
    rw[Qa.1 q];omega
   have ZW:=lh PI;have Xy:F2.length<1000000:=by have:=TM.out;omega
   have hIF:bn (f:Int):=bn.mk (by omega) (by omega);have Yk:bn (F0:Int):=bn.mk (by omega) (by omega);have adM:c.ah.length<=1000000:=by omega
   have as1:rb<wr.heap.size:=(cf Y4.out.out rfl).lt;have Tq:bI wr rb 151:=cf Y4.out.out rfl;have qf:pb ∉ [rb]:=by
    rw[Qa];intro q;have h1:=(gh.out.1 rb gh.out.2.2.2.2.1).2;have h2:=rJ.out;omega
   have su:pb+1 ∉ [rb]:=by
    rw[Qa];intro q;have h1:=(gh.out.1 rb gh.out.2.2.2.2.1).2;have h2:=rJ.out;omega
   have nu:sb ∉ [rb]:=by
    rw[Qa];exact Zb.out.kind.ne Tq (by decide)
   have amB:ob ∉ [rb]:=by
    rw[Qa];exact Zb.out.on.dg.ne Tq (by decide)
   have ajH:Nb ∉ [rb]:=by
    rw[Qa];exact (cf WH.out.out rfl).ne Tq (by decide)
   have acu:=(gh.out.1 rb gh.out.2.2.2.2.1).1;have YM:j+SC.length<68719476736:=by omega
   obtain⟨x0,x1,-,-⟩:=mo.out _ HTZ.out;clear hW RZ PI Fi Fz aeh Tq
   go_wp2_with fail
   have aD:ai [rb] wr wr.drew:=(ai.refl [rb] wr).drew;refine au (ai [rb] wr) [0,1,2,3,4,5,6,7,8,10,13,14] (Way.line [0,1,2,3,4,5,6,7,8,10,9,11,12,13,14,15] .done) (by kernel_rfl) (by kernel_rfl) ?_;simp only[Way.line];have BY:ai [] wr wr.drew:=(ai.refl [] wr).drew
   repeat
    first
     | (refine ar rfl (by rfl) (by rfl) (fun _ _ _ h=>h) aD ?_;simp only[Qb,Z1,Z2,Z3,Z4,Z5,Z6])
     | (refine aq (v:=?_) rfl (by rfl) (by rfl) (fun _ _ _ h=>h) aD (fun w' aK=>?_) ?_;rotate_left;(focus (have fU:=aK.cell x0 (by first | exact qf | exact su | exact nu);have gX:=aK.cell x1 (by first | exact qf | exact su | exact nu);have nP:=aK.cell q4 (by first | exact qf | exact su | exact nu);clear aK;go_simp;try with_reducible rfl));simp only[Qb,Z1,Z2,Z3,Z4,Z5,Z6])
     | (refine ak rfl (by rfl) (by rfl) aD ?_;simp only[Qb,Z1,Z2,Z3,Z4,Z5,Z6])
   refine aC rfl (by rfl) (by rfl) (fun K hK=>?_);go_simp;refine (tV _ _ c.ah wy wr.drew adM abE HED.out (HEZ.out.aM BY (by simp)).ints (HWZ.out.aM BY (by simp)).ints).mono ?_;rw[HWW.out];rintro e w31 ⟨v31,rfl,hr31,hc31⟩;obtain⟨o31,p31,rfl⟩:=hr31.shape;have bD:ai [rb] wr w31:=aD.t hc31;have tk:ai [] wr w31:=BY.t hc31;refine hK.out _ _ (fun _=>bD) ?_;clear hK K aD BY hc31
   try simp only[Qb,Z1,Z2,Z3,Z4,Z5,Z6]
   repeat
    first
     | (refine ar rfl (by rfl) (by rfl) (fun _ _ _ h=>h) bD ?_;simp only[Qb,Z1,Z2,Z3,Z4,Z5,Z6])
     | (refine aq (v:=?_) rfl (by rfl) (by rfl) (fun _ _ _ h=>h) bD (fun w' aK=>?_) ?_;rotate_left;(focus (have fU:=aK.cell x0 (by first | exact qf | exact su | exact nu);have gX:=aK.cell x1 (by first | exact qf | exact su | exact nu);have nP:=aK.cell q4 (by first | exact qf | exact su | exact nu);clear aK;go_simp;try with_reducible rfl));simp only[Qb,Z1,Z2,Z3,Z4,Z5,Z6])
     | (refine ak rfl (by rfl) (by rfl) bD ?_;simp only[Qb,Z1,Z2,Z3,Z4,Z5,Z6])
   have FQ:=Zb.out.fresh tk;refine aC rfl (by rfl) (by rfl) (fun K hK=>?_);go_simp;refine (yo sb ob N w0.heap.size _ _ _ _ g (Plain.eF g s.on wy) F2 Ig W [(f:Int),(F0:Int)] w31 FQ.zl FQ.q2 FQ.on FQ.q3 (WH.out.fresh tk) Xy hWl aiW.out hr31.ints (by simp) ZW.out (JW (tk.heap ajB.out (by simp)) hIF Yk)).mono ?_;rw[HSC.out];rintro e w32 ⟨v32,ys3,rfl,hn32,hc32⟩;obtain⟨o32,p32,rfl⟩:=hn32.shape;have iz:ai [rb] wr w32:=bD.t hc32;have GD:ai [] wr w32:=tk.t hc32;refine hK.out _ _ (fun _=>iz) ?_;clear hK K
   try simp only[Qb,Z1,Z2,Z3,Z4,Z5,Z6]
   have OP:=Y4.out.fresh GD;refine aC rfl (by rfl) (by rfl) (fun K hK=>?_);simp only[Qm,Qj,Qk];refine zZ lO (v:=.slice (some ⟨rb,0,none⟩) j rc) (u:=.slice o32 SC.length p32) (.tmp 189) (.tmp 196) rfl rfl rfl OP.out hn32.out (FQ.fresh hc32).aM.size (fun u hu=>by
    obtain⟨k,hk,rfl⟩:=List.mem_iff_getElem.1 hu;obtain⟨cc,-,jM⟩:=hn32.fit hk;have:=jM.one;simpa[Qx,hk] using this) YM (fun v33 w33 r1 r2 r3=>?_)
   have jv:ai [rb] wr w33:=iz.trans r2 (fun k hk=>Qf (by simpa[Qd] using hk));obtain⟨o33,p33,rfl⟩:=cM r1;refine hK.out _ _ (fun _=>jv) ?_;clear hK K
   try simp only[Qb,Qn,Qu,Qv]
   repeat
    first
     | (refine ar rfl (by rfl) (by rfl) (fun _ _ _ h=>h) jv ?_;simp only[Qb,Z1,Z2,Z3,Z4,Z5,Z6])
     | (refine aq (v:=?_) rfl (by rfl) (by rfl) (fun _ _ _ h=>h) jv (fun w' aK=>?_) ?_;rotate_left;(focus (have fU:=aK.cell x0 (by first | exact qf | exact su | exact nu);have gX:=aK.cell x1 (by first | exact qf | exact su | exact nu);have nP:=aK.cell q4 (by first | exact qf | exact su | exact nu);clear aK;go_simp;try with_reducible rfl));simp only[Qb,Z1,Z2,Z3,Z4,Z5,Z6])
     | (refine ak rfl (by rfl) (by rfl) jv ?_;simp only[Qb,Z1,Z2,Z3,Z4,Z5,Z6])
   have O':=Zb.out.more jv (by simpa using acu) nu amB;have s4:=O'.q4;have f4:=O'.free 4;refine aC rfl (by rfl) (by rfl) (fun K hK=>?_);go_simp;refine hK.out _ _ (fun h=>absurd h (Qi.1 (by kernel_rfl))) ?_;clear hK K
   try simp only[Qb,Z1,Z2,Z3,Z4,Z5,Z6]
   refine aB ?_;have Wm:=hn32.base (B:=w0.heap.size) FQ.aM.size;have ab8:∀ k l b,k<zs.length->l<ys3.length->(zs.getD k undef).ownBlock=some b->(ys3.getD l undef).ownBlock≠some b:=fun k l b hk hl hb hc=>by
    have h1:=(Y4.out.kind hk hb).2.1;have h2:=(hn32.kind hl hc).1;have h3:=tk.size;omega
   have Nw:=OP.cat Wm (by decide) ab8 r1 r2;have bw:ai [sb] w33 (w33.setCell ⟨sb,4,none⟩ (.slice o33 (j+SC.length) p33)):=(ai.refl _ _).setCell (Qf (by simp)) _;have rn:∀ k∈[sb],bI w33 k 85:=fun k hk=>by rw[Qa.1 hk];exact O'.kind
   have HBF:=lh (O'.acI (.slice o33 (j+SC.length) p33));have acz:=WH.out.aM jv (fun b hb hm=>by
    have e:Nb=b:=by simpa[Qd] using hb
    exact ajH (by rw[e];exact hm)) (fun k b hk hb hm=>by
    rw[Qa] at hm;exact UE.out k b hk hb (by rw[hm];exact zf.out.2.1))
   have HFF:=lh (acz.other bw (fun k hk=>⟨_,rn k hk,by decide,by decide,by decide⟩));have XG:=lh (Nw.others bw (fun k hk=>⟨_,rn k hk,by decide,by decide⟩));have ai8:=lh (show nH ob Ig (zs++ys3) from⟨Ha.out.o,fun k l b hk hl hb hc=>by
    rw[Qe] at hl;have fT:=(GW.out.kinds hk hb).2.1;by_cases q:l<zs.length
    ·rw[cQ q] at hc
     rcases HZL.out l b q hc with t | t
     ·exact UE.out k b hk hb t
     omega
    rw[cd (by omega)] at hc;have h2:=(hn32.kind (by omega) hc).1;have h3:=tk.size;have h4:=Ws.out.size;omega⟩)
   have Gt:=lh (show s.put g b.v i=⟨Plain.eF g s.on wy,F2,iB T R1 j++SC⟩ by
    rw[SL.out k1 j1 o HK1.out HO.out HJ1.out,amN.out,SI.out,Ss.out,HL2.out,Yj.out,qg.out,HTR.out,HWW.out,HSC.out,HNR.out])
   have hlen:(iB T R1 j++SC).length=j+SC.length:=by rw[Qe,mU.out j hj]
   have hs3:dF (iB T R1 j)++dF SC=dF (iB T R1 j++SC):=by simp[dF]
   clear Nw bw rn acz O' FQ OP hn32 Wm ab8 r1 r2 r3 tk GD bD iz jv hc32 hr31 s4 f4 x0 x1 q4;generalize w33.setCell ⟨sb,4,none⟩ (.slice o33 (j+SC.length) p33)=w34 at *;go_wp2;refine bodyPost_end (v:=.tuple #[]) (by simp[results,Tryz.results57,go_sem]) rfl ?_;refine⟨rfl,.slice (some ⟨Nb,0,none⟩) (F0+1) Xx,.slice o33 (j+SC.length) p33,Ig,zs++ys3,?_⟩;rw[Gt.out];refine⟨HBF.out,HFF.out,?_,ai8.out⟩;show bF w34 w0.heap.size 151 3 _ (iB T R1 j++SC).length _ (dF (iB T R1 j++SC));rw[hlen,<-hs3];exact XG.out
end Go.Proofs.YtbkjljffnkdcjaaGreat
