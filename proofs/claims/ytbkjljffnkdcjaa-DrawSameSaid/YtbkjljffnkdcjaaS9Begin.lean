/- draw.begin: contract. Conditions: a graph, a right part with an edge that lie in memory and read so. -/
import Derived.Test.YtbkjljffnkdcjaaS9Way
namespace Go.Proofs.Ytbkjljffnkdcjaa
open Go.RowKit Go.Maps
namespace Plain
theorem dropE_err {g:Gr} {p:Pt} (h:p.err g=0) (x:Int):(dropE p x).err g=0:=by
 obtain⟨h1,h2,h3,h4⟩:=Pt.err_ok h
 refine Pt.err_of h1 h2 (rises_filter h3 _) fun e he=>?_
 obtain⟨i,hi,rfl⟩:=mem_getD (List.mem_filter.1 he).1
 exact h4 i hi
def ringOf (g:Gr) (p:Pt):List Int:=2*p.e.getD 0 0 :: (pathF g (dropE p (p.e.getD 0 0)) (g.at (p.e.getD 0 0)).2 (g.at (p.e.getD 0 0)).1).getD []
def beginF (g:Gr) (p:Pt):Sk:=⟨hasV g (ringOf g p),[ringOf g p,twins (ringOf g p)],scraps g (hasV g (ringOf g p)) [ringOf g p,twins (ringOf g p)] (without p.e (ringOf g p)) [0,1]⟩
theorem path_darts {g:Gr} {p:Pt} {a b:Int} (hp:p.err g=0) (h:Prev g p b (reachF g p (-1) b)) (hc:∀ v,reachF g p (-1) b v≠none↔Come g p (-1) b v):∀ d∈(pathF g p a b).getD [],d∈p.darts:=by
 intro d hd
 unfold pathF at hd
 have hk:=Pt.ok_of_err hp
 cases hq:reachF g p (-1) b a with
 | none=>rw[hq] at hd;simp at hd
 | some c =>
  rw[hq] at hd
  have h0:=h.low a c hq
  simp only[Option.map_some,Option.getD_some] at hd
  exact (pathRun_ok hk (fun v hv=>(hk.vr v hv).1) h hc c.toNat a (by rw[hq];congr 1;omega)).2.1 d hd
def PathOk (g:Gr) (p:Pt):Prop:=Prev g (dropE p (p.e.getD 0 0)) (g.at (p.e.getD 0 0)).1 (reachF g (dropE p (p.e.getD 0 0)) (-1) (g.at (p.e.getD 0 0)).1)∧∀ v,reachF g (dropE p (p.e.getD 0 0)) (-1) (g.at (p.e.getD 0 0)).1 v≠none↔Come g (dropE p (p.e.getD 0 0)) (-1) (g.at (p.e.getD 0 0)).1 v
theorem path_len {g:Gr} {p:Pt} {a b:Int} (hp:p.err g=0) (h:Prev g p b (reachF g p (-1) b)) (hc:∀ v,reachF g p (-1) b v≠none↔Come g p (-1) b v):((pathF g p a b).getD []).length≤p.v.length:=by
 unfold pathF
 have hk:=Pt.ok_of_err hp
 cases hq:reachF g p (-1) b a with
 | none=>simp
 | some c =>
  have h0:=h.low a c hq
  obtain⟨-,i2,-,i4⟩:=pathRun_ok hk (fun v hv=>(hk.vr v hv).1) h hc c.toNat a (by rw[hq];congr 1;omega)
  simp only[Option.map_some,Option.getD_some]
  have:=len_le_of_sub i4 fun x hx=>by
   obtain⟨d,hd,rfl⟩:=List.mem_map.1 hx
   exact (hk.tail_mem (i2 d hd)).1
  simpa using this
end Plain
set_option maxRecDepth 100000 in
set_option maxHeartbeats 8000000 in
theorem begin_any (vg vp:Value) (g:Plain.Gr) (p:Plain.Pt) (N:Nat) (w:World) (hr:p.err g=0) (hN:g.n=N) (he0:0<p.e.length) (hg:GrAt w vg g) (hp:PtAt w vp p) :
  Calls Try.prog 14 #[vg,vp] w fun e w'=>∃ sb ob vE fv rv xs ys,e=.returned (.pointer (some ⟨sb,0,none⟩))∧SkOwn w w' sb ob N g vE fv rv xs ys (Plain.beginF g p)∧Plain.PathOk g p∧Chg [] w w':=by
 have HR:=lh hr
 have HN:=lh hN
 have HPK:=lh (Plain.Pt.ok_of_err hr)
 have HGE:=lh (Plain.Gr.err_ok (Plain.Pt.err_ok hr).1)
 have HGR:=lh (Plain.Pt.err_ok hr).1
 have HRE:=lh (Plain.Pt.err_ok hr).2.2.1
 have HEL:=lh (show p.e.length≤1024 by have:=rises_len (Plain.Pt.err_ok hr).2.2.1;have:=(Plain.Gr.err_ok (Plain.Pt.err_ok hr).1);omega)
 have HVL:=lh (show p.v.length≤1025 from nodup_small (N:=1025) HPK.out.vn (fun u hu=>by have:=HPK.out.vr u hu;have:=HGE.out.2.1;omega))
 have hpl:p.v.length≤100000:=by have:=HVL.out;omega
 have hme:p.e.getD 0 0∈p.e:=Plain.getD_mem he0
 have hends:=HPK.out.ends _ hme
 have hre:=Plain.rises_at HRE.out he0
 have HRG:=lh (show Plain.ringOf g p=2*p.e.getD 0 0 :: (Plain.pathF g (Plain.dropE p (p.e.getD 0 0)) (g.at (p.e.getD 0 0)).2 (g.at (p.e.getD 0 0)).1).getD [] from rfl)
 have HDE:=lh (Plain.dropE_err hr (p.e.getD 0 0))
 have HMEM:=lh hme
 obtain⟨e0,he⟩:∃ e0:Nat,p.e.getD 0 0=e0:=⟨(p.e.getD 0 0).toNat,by omega⟩
 rw[he] at hends hre HRG HDE HMEM
 have HEE:=lh he
 have hat:g.at (e0:Int)=g.ends e0:=by unfold Plain.Gr.at;rw[Int.toNat_natCast]
 rw[hat] at hends HRG
 have hel:e0<g.e.length:=by omega
 clear hr hN hme he hat
 have HG:=lh hg
 have HP:=lh hp
 obtain⟨eo,cap,rfl,hn,hm,hsm,hcell⟩:=hg
 obtain⟨v1,v2,rfl,hv,he⟩:=hp
 obtain⟨ao,ac,rfl,has,ham,hacell⟩:=hv
 obtain⟨bo,bc,rfl,hbs,hbm,hbcell⟩:=he
 have HAC:=lh hacell
 have HBC:=lh hbcell
 have HAS:=lh has
 have HBS:=lh hbs
 obtain⟨-,-,hc1⟩:=box_two w #[.int .i64 g.n,.slice eo g.e.length cap] #[.slice ao p.v.length ac,.slice bo p.e.length bc] 24 27
 have HC1:=lh hc1
 have HBXS:=lh (fun w2 h=>two_boxes w (g:=g) (p:=p) (eo:=eo) (ao:=ao) (bo:=bo) (cap:=cap) (ac:=ac) (bc:=bc) (w2:=w2) h)
 clear hcell hacell hbcell hsm has hbs hn hc1
 obtain⟨x0,x1,y0,y1,hsz⟩:=HBXS.out _ (Chg.refl _ _)
 go_enter Try.func14,Try.ntmps14
 obtain⟨bb,boff,rfl,hbc⟩:=HBC.out (by intro e;rw[e] at he0;simp at he0)
 have ce:=HC1.out.cell (hbc 0 he0) (by simp)
 rw[HEE.out,Nat.add_zero] at ce
 obtain⟨eo',cap',eqE,-,-,hsm,hgc⟩:=HG.out
 simp only[Value.agg.injEq,Array.mk.injEq,List.cons.injEq,Value.slice.injEq,true_and,and_true] at eqE
 obtain⟨rfl,rfl⟩:=eqE
 obtain⟨eb,eoff,rfl,hc0,hc1⟩:=hgc e0 hel
 obtain⟨z1,z2⟩:=hsm e0 hel
 have g0:=HC1.out.cell hc0 (by simp)
 have g1:=HC1.out.cell hc1 (by simp)
 obtain⟨x,hx⟩:∃ x,(g.ends e0).1=x:=⟨_,rfl⟩
 obtain⟨y,hy⟩:∃ y,(g.ends e0).2=y:=⟨_,rfl⟩
 have HX0:=lh (show (g.at (p.e.getD 0 0)).1=x by rw[HEE.out];exact (congrArg (fun n=>(g.ends n).1) (Int.toNat_natCast e0)).trans hx)
 rw[hx] at g0 z1 hends HRG
 rw[hy] at g1 z2 hends HRG
 have HENDS:=lh hends
 clear hbc hgc hsm hc0 hc1 hx hy hends
 go_wp2
 generalize (w.alloc (.cells #[.int .i64 g.n,.slice (some ⟨eb,eoff,none⟩) g.e.length cap] 24)).alloc (.cells #[.slice ao p.v.length ac,.slice (some ⟨bb,boff,none⟩) p.e.length bc] 27)=w1 at *
 clear hsz
 have hS0:Chg [] w1 w1.drew:=(Chg.refl [] w1).drew
 refine wp_region_way (Chg [] w1) [0,1,2,4,5,6,7,8,9,10,11,12,13,14,15,17,18,19,20,21] (Way.line [0,1,2,4,5,6,7,8,9,10,11,12,13,14,15,3,16,17,18,19,20,21] .done) (by kernel_rfl) (by kernel_rfl) ?_
 simp only[Way.line]
 repeat
  first
   | (refine along_off rfl (by rfl) (by rfl) (fun _ _ _ h=>h) hS0 ?_;simp only[Act.put,Z1,Z2,Z3,Z4,Z5,Z6])
   | (refine along_read (v:=?_) rfl (by rfl) (by rfl) (fun _ _ _ h=>h) hS0 (fun w' hS'=>?_) ?_;rotate_left;(focus (have rd0:=hS'.cell x0 (by simp);have rd1:=hS'.cell x1 (by simp);have rd2:=hS'.cell y0 (by simp);have rd3:=hS'.cell y1 (by simp);have rd4:=hS'.cell g0 (by simp);have rd5:=hS'.cell g1 (by simp);have rd6:=hS'.cell ce (by simp);clear hS';go_simp;try with_reducible rfl));simp only[Act.put,Z1,Z2,Z3,Z4,Z5,Z6])
   | (refine along_skip rfl (by rfl) (by rfl) hS0 ?_;simp only[Act.put,Z1,Z2,Z3,Z4,Z5,Z6])
 refine along_op rfl (by rfl) (by rfl) (fun K hK=>?_)
 go_simp
 refine (drop_any _ p e0 _ (by omega) (by have:=HEL.out;omega) ((HP.out.fresh HC1.out).fresh hS0)).mono ?_
 rintro e w3 ⟨d1,d2,rfl,hpd,hc3⟩
 have HPD:=lh hpd
 have hS1:Chg [] w1 w3:=hS0.trans hc3 (by simp)
 refine hK.out _ _ (fun _=>hS1) ?_
 clear hK K hc3 hS0 hpd
 try simp only[Act.put,Z1,Z2,Z3,Z4,Z5,Z6]
 repeat
  first
   | (refine along_off rfl (by rfl) (by rfl) (fun _ _ _ h=>h) hS1 ?_;simp only[Act.put,Z1,Z2,Z3,Z4,Z5,Z6])
   | (refine along_read (v:=?_) rfl (by rfl) (by rfl) (fun _ _ _ h=>h) hS1 (fun w' hS'=>?_) ?_;rotate_left;(focus (have rd0:=hS'.cell x0 (by simp);have rd1:=hS'.cell x1 (by simp);have rd2:=hS'.cell y0 (by simp);have rd3:=hS'.cell y1 (by simp);have rd4:=hS'.cell g0 (by simp);have rd5:=hS'.cell g1 (by simp);have rd6:=hS'.cell ce (by simp);clear hS';go_simp;try with_reducible rfl));simp only[Act.put,Z1,Z2,Z3,Z4,Z5,Z6])
   | (refine along_skip rfl (by rfl) (by rfl) hS1 ?_;simp only[Act.put,Z1,Z2,Z3,Z4,Z5,Z6])
 refine along_op rfl (by rfl) (by rfl) (fun K hK=>?_)
 go_simp
 refine (path_any _ _ g (Plain.dropE p e0) y x _ HDE.out HENDS.out.2 HENDS.out.1 ((HG.out.fresh HC1.out).fresh hS1) HPD.out).mono ?_
 rintro e w4 ⟨v4,rfl,hr4,hpc,hc4⟩
 have hS2:Chg [] w1 w4:=hS1.trans hc4 (by simp)
 have HR4:=lh hr4
 have HPC:=lh hpc
 obtain⟨o4,c4,rfl⟩:=hr4.shape
 refine hK.out _ _ (fun _=>hS2) ?_
 clear hK K hc4 hS1 hr4 hpc
 try simp only[Act.put,Z1,Z2,Z3,Z4,Z5,Z6]
 repeat
  first
   | (refine along_off rfl (by rfl) (by rfl) (fun _ _ _ h=>h) hS2 ?_;simp only[Act.put,Z1,Z2,Z3,Z4,Z5,Z6])
   | (refine along_read (v:=?_) rfl (by rfl) (by rfl) (fun _ _ _ h=>h) hS2 (fun w' hS'=>?_) ?_;rotate_left;(focus (have rd0:=hS'.cell x0 (by simp);have rd1:=hS'.cell x1 (by simp);have rd2:=hS'.cell y0 (by simp);have rd3:=hS'.cell y1 (by simp);have rd4:=hS'.cell g0 (by simp);have rd5:=hS'.cell g1 (by simp);have rd6:=hS'.cell ce (by simp);clear hS';go_simp;try with_reducible rfl));simp only[Act.put,Z1,Z2,Z3,Z4,Z5,Z6])
   | (refine along_skip rfl (by rfl) (by rfl) hS2 ?_;simp only[Act.put,Z1,Z2,Z3,Z4,Z5,Z6])
 refine along_done ?_
 have HS2:=lh hS2
 have HDD:=lh (show ∀ d∈Plain.ringOf g p,0≤d∧d / 2<g.e.length∧d∈p.darts from fun d hd=>by
  have hd2:d∈p.darts:=by
   rw[HRG.out] at hd
   rcases List.mem_cons.1 hd with r | r
   ·rw[r];exact Plain.mem_darts.2 (by rw[show 2*(e0:Int) / 2=e0 by omega];exact HMEM.out)
   have h:=Plain.path_darts HDE.out HPC.out.1 HPC.out.2 d r
   exact Plain.mem_darts.2 (List.mem_filter.1 (Plain.mem_darts.1 h)).1
  obtain⟨i,hi,e⟩:=Plain.mem_getD (Plain.mem_darts.1 hd2)
  have:=Plain.rises_at HRE.out hi
  exact⟨by omega,by omega,hd2⟩)
 have HPL:=lh (show ((Plain.pathF g (Plain.dropE p e0) y x).getD []).length≤1025 from Nat.le_trans (Plain.path_len HDE.out HPC.out.1 HPC.out.2) HVL.out)
 obtain⟨l,hl⟩:∃ l,(Plain.pathF g (Plain.dropE p e0) y x).getD []=l:=⟨_,rfl⟩
 obtain⟨bo2,hbo2⟩:∃ b,(Plain.pathF g (Plain.dropE p e0) y x).isSome=b:=⟨_,rfl⟩
 rw[hl] at HR4 HRG HPL ⊢
 rw[hbo2]
 have I64e:I64 (2*(e0:Int)):=I64.mk (by omega) (by have:=HGE.out.2.2.1;have:=HGE.out.1;omega)
 have he1:(e0:Int)≤1024:=by have:=HGE.out.2.2.1;have:=HGE.out.1;omega
 have HCA:=lh (((Chg.refl [] w4).alloc (.cells #[.int .i64 (2*(e0:Int))] 3)).alloc (.cells #[.slice (some ⟨w4.heap.size,0,none⟩) 1 1,.slice o4 l.length c4] 25))
 have HL1:=lh ((lit_ints w4 I64e).fresh ((Chg.refl [] (w4.alloc (.cells #[.int .i64 (2*(e0:Int))] 3))).alloc (.cells #[.slice (some ⟨w4.heap.size,0,none⟩) 1 1,.slice o4 l.length c4] 25)))
 have hbx:=heap_alloc_new (w4.alloc (.cells #[.int .i64 (2*(e0:Int))] 3)) (.cells #[.slice (some ⟨w4.heap.size,0,none⟩) 1 1,.slice o4 l.length c4] 25)
 rw[show (w4.alloc (.cells #[.int .i64 (2*(e0:Int))] 3)).heap.size=w4.heap.size+1 by simp] at hbx
 have HB2:=lh hbx
 clear hl hbo2 hbx hS2 x0 x1 y0 y1 g0 g1 ce
 go_wp2_with fail
 refine (concat_any (w4.heap.size+1) 2 2 (fun k=>if k=0 then .slice (some ⟨w4.heap.size,0,none⟩) 1 1 else .slice o4 l.length c4) [[2*(e0:Int)],l] _ rfl (by omega) (by have:=HPL.out;simp;omega) (fun k hk=>by
  rcases (show k=0∨k=1 by omega) with rfl | rfl
  ·exact⟨(cell_of_row _ _ 0 _ _ _ HB2.out).trans rfl,HL1.out⟩
  exact⟨(cell_of_row _ _ 1 _ _ _ HB2.out).trans rfl,(HR4.out.ints).fresh HCA.out⟩)).mono ?_
 rintro e w5 ⟨v5,rfl,hr5,hc5⟩
 rw[show ([[2*(e0:Int)],l]:List (List Int)).flatten=Plain.ringOf g p by rw[HRG.out];simp] at hr5
 have hr5:=hr5.base (B:=w.heap.size) ((HC1.out.trans HS2.out (by simp)).trans HCA.out (by simp)).size
 obtain⟨o5,c5,rfl⟩:=hr5.shape
 have HRL:=lh (show (Plain.ringOf g p).length≤1026 by rw[HRG.out];have:=HPL.out;simp;omega)
 have HR5:=lh hr5
 have HC15:=lh (show Chg [] w1 w5 from (HS2.out.trans HCA.out (by simp)).trans hc5 (by simp))
 have HC5:=lh (HC1.out.trans HC15.out (by simp))
 obtain⟨c,hc⟩:∃ c,Plain.ringOf g p=c:=⟨_,rfl⟩
 have HCR:=lh hc
 rw[hc] at HDD HRL HR5 ⊢
 clear hr5 hc5 hc HR4 HB2 HL1 HCA
 obtain⟨x0,x1,y0,y1,hsz⟩:=HBXS.out _ HC15.out
 have HZ5:=lh hsz
 go_wp2_with fail
 have hS0:Chg [] w5 w5.drew:=(Chg.refl [] w5).drew
 refine wp_region_way (Chg [] w5) [0,1,2,4,6] (Way.line [0,1,2,3,4,5,6] .done) (by kernel_rfl) (by kernel_rfl) ?_
 simp only[Way.line]
 repeat
  first
   | (refine along_off rfl (by rfl) (by rfl) (fun _ _ _ h=>h) hS0 ?_;simp only[Act.put,Z1,Z2,Z3,Z4,Z5,Z6])
   | (refine along_read (v:=?_) rfl (by rfl) (by rfl) (fun _ _ _ h=>h) hS0 (fun w' hS'=>?_) ?_;rotate_left;(focus (have rd0:=hS'.cell x0 (by simp);have rd1:=hS'.cell x1 (by simp);clear hS';go_simp;try with_reducible rfl));simp only[Act.put,Z1,Z2,Z3,Z4,Z5,Z6])
   | (refine along_skip rfl (by rfl) (by rfl) hS0 ?_;simp only[Act.put,Z1,Z2,Z3,Z4,Z5,Z6])
 refine along_op rfl (by rfl) (by rfl) (fun K hK=>?_)
 simp only[List.getElem_toArray,List.getElem_cons_zero,List.getElem_cons_succ]
 refine op_make elemBool _ _ rfl (B:=w5.heap.size) (n:=N) (by show Value.int .i64 g.n=_;rw[HN.out]) (by show Value.int .i64 g.n=_;rw[HN.out]) (Nat.le_refl _) (by have:=HGE.out.2.1;have:=HN.out;omega) (fun w6 h6 c6=>?_)
 have H6:=lh (show BitsAt w6 w5.heap.size w5.heap.size N (fun _=>false) from bits_made h6)
 have hS1:Chg [] w5 w6:=hS0.trans c6 (by simp)
 refine hK.out _ _ (fun _=>hS1) ?_
 clear hK K hS0 h6 c6
 try simp only[Act.put,List.setIfInBounds_toArray,List.set_cons_zero,List.set_cons_succ]
 repeat
  first
   | (refine along_off rfl (by rfl) (by rfl) (fun _ _ _ h=>h) hS1 ?_;simp only[Act.put,Z1,Z2,Z3,Z4,Z5,Z6])
   | (refine along_read (v:=?_) rfl (by rfl) (by rfl) (fun _ _ _ h=>h) hS1 (fun w' hS'=>?_) ?_;rotate_left;(focus (have rd0:=hS'.cell x0 (by simp);have rd1:=hS'.cell x1 (by simp);clear hS';go_simp;try with_reducible rfl));simp only[Act.put,Z1,Z2,Z3,Z4,Z5,Z6])
   | (refine along_skip rfl (by rfl) (by rfl) hS1 ?_;simp only[Act.put,Z1,Z2,Z3,Z4,Z5,Z6])
 refine along_op rfl (by rfl) (by rfl) (fun K hK=>?_)
 go_simp
 have hS2:=hS1.alloc (.cells #[.int .i64 g.n,.slice (some ⟨eb,eoff,none⟩) g.e.length cap,.slice (some ⟨w5.heap.size,0,none⟩) N N,.slice none 0 0,.slice none 0 0] 49)
 refine hK.out _ _ (fun _=>hS2) ?_
 clear hK K
 try simp only[Act.put,Z1,Z2,Z3,Z4,Z5,Z6]
 repeat
  first
   | (refine along_off rfl (by rfl) (by rfl) (fun _ _ _ h=>h) hS2 ?_;simp only[Act.put,Z1,Z2,Z3,Z4,Z5,Z6])
   | (refine along_read (v:=?_) rfl (by rfl) (by rfl) (fun _ _ _ h=>h) hS2 (fun w' hS'=>?_) ?_;rotate_left;(focus (have rd0:=hS'.cell x0 (by simp);have rd1:=hS'.cell x1 (by simp);clear hS';go_simp;try with_reducible rfl));simp only[Act.put,Z1,Z2,Z3,Z4,Z5,Z6])
   | (refine along_skip rfl (by rfl) (by rfl) hS2 ?_;simp only[Act.put,Z1,Z2,Z3,Z4,Z5,Z6])
 refine along_done ?_
 have hbx:=heap_alloc_new w6 (.cells #[.int .i64 g.n,.slice (some ⟨eb,eoff,none⟩) g.e.length cap,.slice (some ⟨w5.heap.size,0,none⟩) N N,.slice none 0 0,.slice none 0 0] 49)
 have HSB:=lh hbx
 have H7:=lh (H6.out.chg ((Chg.refl [] w6).alloc (.cells #[.int .i64 g.n,.slice (some ⟨eb,eoff,none⟩) g.e.length cap,.slice (some ⟨w5.heap.size,0,none⟩) N N,.slice none 0 0,.slice none 0 0] 49)) (by simp))
 have HOBS:=lh H6.out.lt
 have HC57:=lh hS2
 have HC57s:=lh hS1.size
 clear hbx hS1 hS2 x0 x1 y0 y1 hsz H6
 generalize w6.alloc (.cells #[.int .i64 g.n,.slice (some ⟨eb,eoff,none⟩) g.e.length cap,.slice (some ⟨w5.heap.size,0,none⟩) N N,.slice none 0 0,.slice none 0 0] 49)=w7 at *
 obtain⟨sb,hsb⟩:∃ n,w6.heap.size=n:=⟨_,rfl⟩
 obtain⟨ob,hob⟩:∃ n,w5.heap.size=n:=⟨_,rfl⟩
 have HB5:=lh (show w.heap.size≤ob by rw[←hob];exact HC5.out.size)
 have HOB:=lh hob
 rw[hsb] at HSB HOBS ⊢
 rw[hob] at HSB H7 HOBS ⊢
 have HOS:=lh (show ob<sb from HOBS.out.2)
 clear hsb hob
 go_wp2_with fail
 go_loopw [11,50] (fun _ k wr=>∃ i:Nat,i≤c.length∧k=.int .i64 i∧BitsAt wr ob ob N (Plain.hasV g (c.take i))∧Chg [ob] w7 wr) (fun _ k _=>c.length - (intOf k).toNat)
 case atStart=>exact⟨0,Nat.zero_le _,rfl,bits_same H7.out (fun _ _=>rfl),Chg.refl _ _⟩
 case round =>
  obtain⟨i,hi,rfl,hbits,hc⟩:=hrel
  have HB:=lh hbits
  have HC:=lh hc
  have HC5R:=lh (HC57.out.trans hc (fun j hj=>Or.inr (by rw[List.mem_singleton] at hj;have:=HOB.out;omega)))
  have HC1R:=lh (HC15.out.trans HC5R.out (by simp))
  have HC0R:=lh (HC1.out.trans HC1R.out (by simp))
  obtain⟨x0,x1,y0,y1,hsz⟩:=HBXS.out _ HC1R.out
  have hsk:=hc.heap HSB.out (by rw[List.mem_singleton];have:=HOS.out;omega)
  have HSK:=lh hsk
  clear hbits hc H7
  by_cases hlt:i<c.length
  ·obtain⟨rb,erb,hrc⟩:=HR5.out.some (by omega)
   subst erb
   have rcell:=HC5R.out.cell (hrc i hlt) (by simp)
   have hdb:=HDD.out _ (Plain.getD_mem hlt)
   have HT:=lh (Plain.hasV_take (g:=g) hlt)
   obtain⟨n,hn⟩:∃ n:Nat,c.getD i 0=n:=⟨(c.getD i 0).toNat,by omega⟩
   rw[hn] at rcell HT hdb
   have hvv:=HPK.out.vr _ (HPK.out.tail_mem hdb.2.2).1
   obtain⟨v,hv⟩:∃ v:Nat,g.tail (n:Int)=v:=⟨(g.tail (n:Int)).toNat,by omega⟩
   rw[hv] at HT hvv
   have HTV:=lh hv
   have hvN:v<N:=by have:=HN.out;omega
   have hvi:(v:Int)<(N:Int):=by omega
   have hn2:n / 2<g.e.length:=by have:=hdb.2.1;omega
   have s2:=(cell_of_row _ _ 2 _ _ _ hsk).trans (show _=some (Value.slice (some ⟨ob,0,none⟩) N N) from rfl)
   have hcl:c.length≤1026:=HRL.out
   clear hrc hn hv hdb hvv hsk y0 y1 hsz
   go_wp2_with fail
   have hS0:Chg [] wr wr.drew:=(Chg.refl [] wr).drew
   refine wp_region_way (Chg [] wr) [0,1,2,3,4,5,7] (Way.line [0,1,2,3,4,5,6,7,8] .done) (by kernel_rfl) (by kernel_rfl) ?_
   simp only[Way.line]
   repeat
    first
     | (refine along_off rfl (by rfl) (by rfl) (fun _ _ _ h=>h) hS0 ?_;simp only[Act.put,Z1,Z2,Z3,Z4,Z5,Z6])
     | (refine along_read (v:=?_) rfl (by rfl) (by rfl) (fun _ _ _ h=>h) hS0 (fun w' hS'=>?_) ?_;rotate_left;(focus (have rd0:=hS'.cell x0 (by simp);have rd1:=hS'.cell x1 (by simp);have rd2:=hS'.cell s2 (by simp);clear hS';go_simp;try with_reducible rfl));simp only[Act.put,Z1,Z2,Z3,Z4,Z5,Z6])
     | (refine along_skip rfl (by rfl) (by rfl) hS0 ?_;simp only[Act.put,Z1,Z2,Z3,Z4,Z5,Z6])
   refine along_op rfl (by rfl) (by rfl) (fun K hK=>?_)
   go_simp
   refine (dleaves_any _ g n _ hn2 (by have:=HGE.out.2.2.1;have:=HGE.out.1;omega) ((HG.out.fresh HC0R.out).fresh hS0)).mono ?_
   rw[HTV.out]
   rintro e w9 ⟨rfl,hc9⟩
   have hS1:Chg [] wr w9:=hS0.trans hc9 (by simp)
   refine hK.out _ _ (fun _=>hS1) ?_
   clear hK K hc9 hS0
   try simp only[Act.put,Z1,Z2,Z3,Z4,Z5,Z6]
   repeat
    first
     | (refine along_off rfl (by rfl) (by rfl) (fun _ _ _ h=>h) hS1 ?_;simp only[Act.put,Z1,Z2,Z3,Z4,Z5,Z6])
     | (refine along_read (v:=?_) rfl (by rfl) (by rfl) (fun _ _ _ h=>h) hS1 (fun w' hS'=>?_) ?_;rotate_left;(focus (have rd0:=hS'.cell x0 (by simp);have rd1:=hS'.cell x1 (by simp);have rd2:=hS'.cell s2 (by simp);clear hS';go_simp;try with_reducible rfl));simp only[Act.put,Z1,Z2,Z3,Z4,Z5,Z6])
     | (refine along_skip rfl (by rfl) (by rfl) hS1 ?_;simp only[Act.put,Z1,Z2,Z3,Z4,Z5,Z6])
   have hb9:=HB.out.chg hS1 (by simp)
   have bc:=hb9.cell hvN
   have bf:=hb9.free v
   refine along_op rfl (by rfl) (by rfl) (fun K hK=>?_)
   go_simp
   refine hK.out _ _ (fun h=>absurd h (Bool.eq_false_iff.1 (by kernel_rfl))) ?_
   clear hK K
   try simp only[Act.put,Z1,Z2,Z3,Z4,Z5,Z6]
   refine along_done ?_
   have h1:=hb9.set (v:=v) true
   have e:(fun u=>if u=(v:Int) then true else Plain.hasV g (c.take i) u)=Plain.hasV g (c.take (i+1)):=funext fun u=>(HT.out u).symm
   rw[e] at h1
   have HH1:=lh h1
   have HC9:=lh ((HC.out.trans hS1 (by simp)).trans ((Chg.refl [ob] w9).setCell (p:=⟨ob,v,none⟩) (Or.inl (by simp)) (.bool true)) (fun j hj=>Or.inl hj))
   clear h1 e hb9 bc bf hS1 x0 x1 s2 rcell
   generalize w9.setCell ⟨ob,v,none⟩ (.bool true)=w10 at *
   go_wp2
   go_roundw
   case rel=>exact⟨i+1,by omega,by go_num,HH1.out,HC9.out⟩
   case measure=>simp[intOf];omega
  have e:i=c.length:=by omega
  subst e
  rw[List.take_length] at HB
  have HCL:=lh (show (Plain.twins c).length=c.length from Plain.twins_len c)
  have HDT:=lh (show ∀ d∈Plain.twins c,0≤d∧d / 2<g.e.length from fun d hd=>by
   have h2:=HDD.out _ (Plain.twins_mem.1 hd)
   have h3:=Plain.twin_div d
   omega)
  have HGI:=lh (GrIn.mk (sb:=sb) (vE:=.slice (some ⟨eb,eoff,none⟩) g.e.length cap) (N:=N) (g:=g) ((cell_of_row _ _ 0 _ _ _ hsk).trans rfl) ((cell_of_row _ _ 1 _ _ _ hsk).trans rfl) (HG.out.fresh HC0R.out) HN.out HGR.out)
  have HRW:=lh (HR5.out.chg HC5R.out (by simp))
  clear hi hlt hsk x0 x1 y0 y1 hsz
  go_wp2_with fail
  refine (border_any sb N _ _ g c wr HGI.out (by have:=HRL.out;omega) (fun d hd=>⟨(HDD.out d hd).1,(HDD.out d hd).2.1⟩) HRW.out.ints).mono ?_
  rintro e w11 ⟨hb1,rfl,hbb1,hc11⟩
  have HBB1:=lh hbb1
  have HC11:=lh hc11
  clear hbb1 hc11
  go_wp2_with fail
  refine (twins_any _ c w11 (by have:=HRL.out;omega) (fun d hd=>by have h:=HDD.out d hd;have:=HGE.out.2.2.1;have:=HGE.out.1;omega) (HRW.out.ints.fresh HC11.out)).mono ?_
  rintro e w12 ⟨v12,rfl,hr12,hc12⟩
  obtain⟨o12,c12,rfl⟩:=hr12.shape
  have HR12:=lh hr12
  have HC12:=lh (HC11.out.trans hc12 (by simp))
  have HC112:=lh hc12
  clear hr12 hc12
  go_wp2_with fail
  refine (border_any sb N _ _ g (Plain.twins c) w12 (HGI.out.fresh HC12.out) (by rw[HCL.out];have:=HRL.out;omega) HDT.out HR12.out.ints).mono ?_
  rintro e w13 ⟨hb2,rfl,hbb2,hc13⟩
  have HBB2:=lh hbb2
  have HC13:=lh (HC12.out.trans hc13 (by simp))
  have HC1213:=lh hc13
  clear hbb2 hc13
  have hca:=(Chg.refl [] w13).alloc (.cells #[.slice o5 c.length c5,.slice (some ⟨hb1,0,none⟩) N N,.slice o12 (Plain.twins c).length c12,.slice (some ⟨hb2,0,none⟩) N N] 68)
  have HFB:=lh (World.ownsRow_lit (size:=2) (e:=68) (base:=w.heap.size) w13 #[.slice o5 c.length c5,.slice (some ⟨hb1,0,none⟩) N N,.slice o12 (Plain.twins c).length c12,.slice (some ⟨hb2,0,none⟩) N N] 2 ((HC0R.out.trans HC13.out (by simp)).size) (by decide) rfl)
  have hsk13:=(HC13.out.trans hca (by simp)).heap HSK.out (by simp)
  have HCA:=lh hca
  have s3:=(cell_of_row _ _ 3 _ _ _ hsk13).trans (show _=some (Value.slice none 0 0) from rfl)
  have f3:=free_at hsk13 3
  have HSK14:=lh hsk13
  have HC14:=lh (HC13.out.trans hca (by simp))
  have HC014:=lh (HC0R.out.trans HC14.out (by simp))
  clear hca hsk13
  obtain⟨x0,x1,y0,y1,hsz⟩:=HBXS.out _ ((HC1R.out.trans HC14.out (by simp)).trans ((Chg.refl [] _)) (by simp))
  have HY1:=lh y1
  have hsbl:w.heap.size+1<sb:=by have:=HOS.out;have:=HZ5.out;have:=HOB.out;omega
  have hnsb:¬ w.heap.size+1=sb:=by omega
  have hnsb2:¬ sb=w.heap.size+1:=by omega
  clear x0 x1 y0 hsz
  go_wp2_with fail
  clear s3 f3 y1 hnsb hnsb2
  obtain⟨fb,hfb⟩:∃ n,w13.heap.size=n:=⟨_,rfl⟩
  rw[hfb] at HFB ⊢
  generalize w13.alloc (.cells #[.slice o5 c.length c5,.slice (some ⟨hb1,0,none⟩) N N,.slice o12 (Plain.twins c).length c12,.slice (some ⟨hb2,0,none⟩) N N] 68)=w14 at *
  have hset:Chg [sb] w14 (w14.setCell ⟨sb,3,none⟩ (.slice (some ⟨fb,0,none⟩) 2 2)):=(Chg.refl _ w14).setCell (Or.inl (by simp)) _
  have HSK15:=lh (heap_setCell_same HSK14.out 3 (.slice (some ⟨fb,0,none⟩) 2 2))
  have hnb:∀ {b:Nat} {cs:Array Value} {t:TypeId} {r:Nat × Nat},w14.heap[b]?=some (.cells cs t r)→t≠49→b ∉ [sb]:=fun {b} {cs} {t} {r} h ht e=>by
   rw[List.mem_singleton] at e
   rw[e,HSK14.out] at h
   simp at h
   exact ht h.2.1.symm
  have hrowk:∀ {v:Value} {l:List Int} {B:Nat},RowAt w14 B v l→∀ b∈v.ownBlock.toList,b ∉ [sb]:=fun h b hb=>by
   obtain⟨cs,r,hh⟩:=row_kind h b (by rw[h.foot];exact hb)
   exact hnb hh (by decide)
  have hbitk:∀ {b n:Nat} {B:Nat} {f:Int→Bool},BitsAt w14 B b n f→b ∉ [sb]:=fun h=>by
   obtain⟨cs,hh⟩:=h.kind
   exact hnb hh (by decide)
  have r1:=HRW.out.chg HC14.out (by simp)
  have r2:=(HR12.out.chg (HC1213.out.trans HCA.out (by simp)) (by simp)).base (B:=w.heap.size) (HC0R.out.trans HC11.out (by simp)).size
  have b0:=(HB.out.base HB5.out).chg HC14.out (by simp)
  have b1:=(HBB1.out.base HC0R.out.size).chg ((HC112.out.trans HC1213.out (by simp)).trans HCA.out (by simp)) (by simp)
  have b2:=(HBB2.out.base (HC0R.out.trans HC12.out (by simp)).size).chg HCA.out (by simp)
  have HFA:=lh (show FacesAt g (w14.setCell ⟨sb,3,none⟩ (.slice (some ⟨fb,0,none⟩) 2 2)) w.heap.size N (.slice (some ⟨fb,0,none⟩) 2 2) [.slice o5 c.length c5,.slice (some ⟨hb1,0,none⟩) N N,.slice o12 (Plain.twins c).length c12,.slice (some ⟨hb2,0,none⟩) N N] [c,Plain.twins c] from by
   refine⟨owns_chg HFB.out hset (fun b hb=>?_),rfl,fun i hi=>?_,fun i hi=>?_⟩
   ·rcases HFB.out.2 with ⟨q,_⟩ | ⟨g',c',cur,q,_,hh,_⟩
    ·cases q
    simp only[Value.slice.injEq,Option.some.injEq,Addr.mk.injEq] at q
    simp[Value.ownBlock] at hb
    rw[←hb,q.1.1]
    exact hnb hh (by decide)
   ·rcases (show i=0∨i=1 by simp at hi;omega) with rfl | rfl
    ·exact r1.chg hset (hrowk r1)
    exact r2.chg hset (hrowk r2)
   rcases (show i=0∨i=1 by simp at hi;omega) with rfl | rfl
   ·exact⟨hb1,rfl,b1.chg hset (hbitk b1)⟩
   exact⟨hb2,rfl,b2.chg hset (hbitk b2)⟩)
  have HB15:=lh (b0.chg hset (hbitk b0))
  have HR15:=lh (r1.chg hset (hrowk r1))
  have HC015:=lh (HC014.out.trans hset (fun j hj=>Or.inr (by rw[List.mem_singleton] at hj;omega)))
  clear hset hnb hrowk hbitk r1 r2 b0 b1 b2 hfb
  generalize w14.setCell ⟨sb,3,none⟩ (.slice (some ⟨fb,0,none⟩) 2 2)=w15 at *
  have HG15:=lh (GrIn.mk (sb:=sb) (vE:=.slice (some ⟨eb,eoff,none⟩) g.e.length cap) (N:=N) (g:=g) ((cell_of_row _ _ 0 _ _ _ HSK15.out).trans rfl) ((cell_of_row _ _ 1 _ _ _ HSK15.out).trans rfl) (HG.out.fresh HC015.out) HN.out HGR.out)
  have HQ2:=lh ((cell_of_row _ _ 2 _ _ _ HSK15.out).trans (show _=some (Value.slice (some ⟨ob,0,none⟩) N N) from rfl))
  have HQ3:=lh ((cell_of_row _ _ 3 _ _ _ HSK15.out).trans (show _=some (Value.slice (some ⟨fb,0,none⟩) 2 2) from rfl))
  obtain⟨pv1,pv2,epv,-,hpe⟩:=HP.out
  simp only[Value.agg.injEq,Array.mk.injEq,List.cons.injEq,and_true] at epv
  obtain⟨rfl,rfl⟩:=epv
  have hE:∀ e∈p.e,0≤e∧e<g.e.length:=fun e he=>by
   obtain⟨i,hi,rfl⟩:=Plain.mem_getD he
   have:=Plain.rises_at HRE.out hi
   exact⟨by omega,by omega⟩
  have HPE:=lh hE
  refine (without_any _ _ p.e c w15 (by have:=HEL.out;omega) (by have:=HRL.out;omega) (fun e he=>by have:=hE e he;have:=HGE.out.2.2.1;have:=HGE.out.1;omega) (hpe.fresh HC015.out) HR15.out.ints).mono ?_
  rintro e w16 ⟨v16,rfl,hr16,hc16⟩
  obtain⟨o16,c16,rfl⟩:=hr16.shape
  have HR16:=lh hr16
  have HC16:=lh hc16
  clear hr16 hc16 hpe hE
  go_wp2_with fail
  have hlit:=lit_two w16 (x:=0) (y:=1) (I64.mk (by omega) (by omega)) (I64.mk (by omega) (by omega))
  have HLIT:=lh hlit
  have HC17:=lh (HC16.out.trans ((Chg.refl [] w16).alloc (.cells #[.int .i64 0,.int .i64 1] 3)) (by simp))
  have HR17:=lh (HR16.out.chg ((Chg.refl [] w16).alloc (.cells #[.int .i64 0,.int .i64 1] 3)) (by simp))
  clear hlit
  refine (scraps_any sb ob N w.heap.size _ (.slice (some ⟨fb,0,none⟩) 2 2) _ _ g (Plain.hasV g c) [c,Plain.twins c] _ (Plain.without p.e c) [0,1] _ (HG15.out.fresh HC17.out) (HC17.out.cell HQ2.out (by simp)) (HB15.out.chg HC17.out (by simp)) (HC17.out.cell HQ3.out (by simp)) (HFA.out.fresh HC17.out) (by simp) (Nat.le_trans (List.length_filter_le _ _) HEL.out) (fun e he=>HPE.out e (Plain.mem_without.1 he).1) HR17.out.ints (by simp) (by simp) HLIT.out).mono ?_
  rintro e w18 ⟨ov,ys,rfl,hne,hc18⟩
  obtain⟨ro,rc3,rfl⟩:=hne.shape
  have HC18:=lh (HC17.out.trans hc18 (by simp))
  have HNE0:=lh hne
  have HNE:=lh (hne.base (B:=w.heap.size) (HC015.out.trans HC17.out (by simp)).size)
  have hsk18:=HC18.out.heap HSK15.out (by simp)
  have HSK18:=lh hsk18
  have s4:=(cell_of_row _ _ 4 _ _ _ hsk18).trans (show _=some (Value.slice none 0 0) from rfl)
  have f4:=free_at hsk18 4
  clear hne hc18 hsk18
  go_wp2
  go_ret
  have hset:Chg [sb] w18 (w18.setCell ⟨sb,4,none⟩ (.slice ro (Plain.scraps g (Plain.hasV g c) [c,Plain.twins c] (Plain.without p.e c) [0,1]).length rc3)):=(Chg.refl _ w18).setCell (Or.inl (by simp)) _
  have hsk19:=heap_setCell_same HSK18.out 4 (.slice ro (Plain.scraps g (Plain.hasV g c) [c,Plain.twins c] (Plain.without p.e c) [0,1]).length rc3)
  have hnb:∀ {b:Nat} {cs:Array Value} {t:TypeId} {r:Nat × Nat},w18.heap[b]?=some (.cells cs t r)→t≠49→b ∉ [sb]:=fun {b} {cs} {t} {r} h ht e=>by
   rw[List.mem_singleton] at e
   rw[e,HSK18.out] at h
   simp at h
   exact ht h.2.1.symm
  have hcf:=(HC015.out.trans HC18.out (by simp)).trans hset (fun j hj=>Or.inr (by rw[List.mem_singleton] at hj;omega))
  have hfa:=HFA.out.fresh HC18.out
  have hbt:=HB15.out.chg HC18.out (by simp)
  have hrowk:∀ {v:Value} {l:List Int} {B:Nat},RowAt w18 B v l→∀ b,v.ownBlock=some b→b ∉ [sb]:=fun h b hb=>by
   obtain⟨cs,r,hh⟩:=row_kind h b (by rw[h.foot,hb];simp)
   exact hnb hh (by decide)
  have hbitk:∀ {b n:Nat} {B:Nat} {f:Int→Bool},BitsAt w18 B b n f→b ∉ [sb]:=fun h=>by
   obtain⟨cs,hh⟩:=h.kind
   exact hnb hh (by decide)
  have hbeg:Plain.beginF g p=⟨Plain.hasV g c,[c,Plain.twins c],Plain.scraps g (Plain.hasV g c) [c,Plain.twins c] (Plain.without p.e c) [0,1]⟩:=by unfold Plain.beginF;rw[HCR.out]
  rw[hbeg]
  have hf17:=HFA.out.fresh HC17.out
  have hob1:=HB.out.lt.2
  have hhb1:=HBB1.out.lt.1
  have hhb2:=HBB2.out.lt.1
  have hs12:=HC12.out.size
  have hpok:Plain.PathOk g p:=by
   unfold Plain.PathOk
   rw[HX0.out,HEE.out]
   exact HPC.out
  have hbt17:=HB15.out.chg HC17.out (by simp)
  refine⟨sb,ob,_,_,_,_,ys,rfl,⟨⟨HG.out,HN.out,HGR.out,hcf,by omega,hsk19,hbt.chg hset (hbitk hbt)⟩,hfa.chg hset (fun b hb=>?_) (fun k b hk hb=>?_),HNE.out.other hset (fun j hj cs t r hh=>?_),⟨fun k hk hb=>?_,fun k l b hk hl hb e=>?_⟩⟩,hpok,hcf⟩
  ·rcases hfa.out.2 with ⟨q,_⟩ | ⟨g',c',cur,q,_,hh,_⟩
   ·cases q
   simp only[Value.slice.injEq,Option.some.injEq,Addr.mk.injEq] at q
   simp[Value.ownBlock] at hb
   rw[←hb,q.1.1]
   exact hnb hh (by decide)
  ·rcases (show k=0∨k=1∨k=2∨k=3 by simp at hk;omega) with rfl | rfl | rfl | rfl
   ·exact hrowk (hfa.row 0 (by simp)) b hb
   ·obtain⟨b',e1,e2⟩:=hfa.has 0 (by simp)
    have:b=b':=by
     have h:=hb
     rw[show (1:Nat)=2*0+1 from rfl,e1] at h
     simp[Value.ownBlock] at h
     exact h.symm
    rw[this];exact hbitk e2
   ·exact hrowk (hfa.row 1 (by simp)) b hb
   obtain⟨b',e1,e2⟩:=hfa.has 1 (by simp)
   have:b=b':=by
    have h:=hb
    rw[show (3:Nat)=2*1+1 from rfl,e1] at h
    simp[Value.ownBlock] at h
    exact h.symm
   rw[this];exact hbitk e2
  ·rw[List.mem_singleton] at hj
   rw[hj,HSK18.out] at hh
   simp at hh
   rw[←hh.2.1]
   exact⟨by decide,by decide⟩
  ·rcases (show k=0∨k=1∨k=2∨k=3 by simp at hk;omega) with rfl | rfl | rfl | rfl
   ·exact (hf17.row 0 (by simp)).kindAt hb |>.ne hbt17.kindAt (by decide) rfl
   ·have:hb1=ob:=by simpa[Value.ownBlock] using hb
    omega
   ·exact (hf17.row 1 (by simp)).kindAt hb |>.ne hbt17.kindAt (by decide) rfl
   have:hb2=ob:=by simpa[Value.ownBlock] using hb
   omega
  have h1:=hf17.kinds hk hb
  have h2:=HNE0.out.kind hl e
  omega
end Go.Proofs.Ytbkjljffnkdcjaa
