/- block.Solid: contract: it tells whether a right part is one block. Conditions: a graph, a part that lie in memory and read so. -/
import Derived.Test.YtmhcmnaecpagiaaGreatZBSpan
import Derived.Test.YtmhcmnaecpagiaaGreatZSpan
namespace Go.Proofs.YtmhcmnaecpagiaaGreat
open Go.RowKit Go.Maps
namespace Plain
noncomputable def solidB (g:Gr) (p:Pt):Bool:=@decide (p.err g=0∧SolidP g p) (Classical.propDecidable _)
theorem solidB_iff {g:Gr} {p:Pt}:solidB g p=true↔p.err g=0∧SolidP g p:=by unfold solidB;exact @decide_eq_true_iff _ (Classical.propDecidable _)
theorem endsL_mem {g:Gr} {E:List Int} {v:Int}:v∈endsL g E↔∃ e∈E,(g.at e).1=v∨(g.at e).2=v:=by
 unfold endsL;rw[List.mem_flatMap];constructor
 ·rintro ⟨e,he,h⟩
  simp at h;exact⟨e,he,h.imp Eq.symm Eq.symm⟩
 rintro ⟨e,he,h⟩;exact⟨e,he,by simpa using h.imp Eq.symm Eq.symm⟩
theorem solid_one {g:Gr} {p:Pt} (h:p.err g=0):((keysB g p).length=1∧blkV g p ((keysB g p).getD 0 0)=p.v∧blkE g p ((keysB g p).getD 0 0)=p.e)↔SolidP g p:=by
 have hp:=Pt.ok_of_err h;obtain⟨-,hv,he,-⟩:=Pt.err_ok h;have hV:p.v.Pairwise (·<·):=rises_pair hv;have hE:p.e.Pairwise (·<·):=rises_pair he;rw[←one_block hp,keysB_len];refine and_congr_right fun h1=>?_;obtain⟨l,hB⟩:=List.length_eq_one_iff.1 h1;have hk:keysB g p=[l.getD 0 0]:=by unfold keysB headsB;rw[hB];simp
 have hbl:blkE g p (l.getD 0 0)=l:=by unfold blkE blAt;rw[hB];simp
 have hperm:=blocks_perm hp;rw[hB,List.flatten_cons,List.flatten_nil,List.append_nil] at hperm;have hrise:l.Pairwise (·≤·):=rising_all g p l (by rw[hB];simp);have hle:l=p.e:=by
  have hn:l.Nodup:=hperm.nodup_iff.2 hp.en;have hlt:l.Pairwise (·<·):=by
   have:=hrise.and hn;exact this.imp fun {a b} k=>by obtain⟨k1,k2⟩:=k;exact Int.lt_iff_le_and_ne.2 ⟨k1,k2⟩
  exact rise_ext hlt hE fun x=>hperm.mem_iff
 have hvb:blkV g p (l.getD 0 0)=tidy (endsL g p.e):=by
  show tidy (endsL g (blkE g p (l.getD 0 0)))=_;rw[hbl,hle]
 have h0:(keysB g p).getD 0 0=l.getD 0 0:=by rw[hk];rfl
 rw[h0,hvb,hbl,hle];have hds:∀ v,v∈endsL g p.e↔∃ d∈p.darts,g.tail d=v:=fun v=>by
  rw[endsL_mem];constructor
  ·rintro ⟨e,he,q⟩
   have h2:=tail_even g e;have hd:2*e∈p.darts:=mem_darts.2 (by rwa[show 2*e / 2=e by omega]);rcases q with q | q
   ·exact⟨2*e,hd,by rw[h2.1,q]⟩
   exact⟨twin (2*e),twin_mem hd,by rw[tail_twin,h2.2,q]⟩
  rintro ⟨d,hd,q⟩;refine⟨d / 2,mem_darts.1 hd,?_⟩;rcases dart_ats g d with ⟨j1,-⟩ | ⟨j1,-⟩
  ·exact Or.inl (j1.symm.trans q)
  exact Or.inr (j1.symm.trans q)
 constructor
 ·rintro ⟨q,-⟩ v hv'
  rw[←q,(tidy_ok _).2,hds] at hv';exact hv'
 intro q;refine⟨rise_ext (tidy_ok _).1 hV fun v=>?_,rfl⟩;rw[(tidy_ok _).2,hds];exact⟨fun ⟨d,hd,e⟩=>by rw[←e];exact (hp.tail_mem hd).1,q v⟩
end Plain
set_option maxRecDepth 100000 in
set_option maxHeartbeats 4000000 in
theorem bsolid_any (vg vp:Value) (g:Plain.Gr) (p:Plain.Pt) (w:World) (hpl:p.v.length≤100000) (hg:GrAt w vg g) (hp:PtAt w vp p) :
  Calls Tryz.prog 30 #[vg,vp] w fun e w'=>e=.returned (.bool (Plain.solidB g p))∧Chg [] w w':=by
 have HG:=lh hg;have HP:=lh hp;obtain⟨eo,cap,rfl,hn,hm,hsm,hcell⟩:=hg;obtain⟨v1,v2,rfl,hv,he⟩:=hp;obtain⟨ao,ac,rfl,has,ham,hacell⟩:=hv;obtain⟨bo,bc,rfl,hbs,hbm,hbcell⟩:=he;have HAC:=lh hacell;have HBC:=lh hbcell;have HAS:=lh has;have HBS:=lh hbs;obtain⟨-,-,hc1⟩:=box_two w #[.int .i64 g.n,.slice eo g.e.length cap] #[.slice ao p.v.length ac,.slice bo p.e.length bc] 24 27;have HC1:=lh hc1;have HBXS:=lh (fun w2 h=>two_boxes w (g:=g) (p:=p) (eo:=eo) (ao:=ao) (bo:=bo) (cap:=cap) (ac:=ac) (bc:=bc) (w2:=w2) h);clear hcell hacell hbcell hsm has hbs hn hc1;obtain⟨x0,x1,y0,y1,hsz⟩:=HBXS.out _ (Chg.refl _ _)
 go_enter Tryz.func30,Tryz.ntmps30
 go_wp2_with fail
 obtain⟨w1,hw1⟩:∃ w1,((w.alloc (.cells #[.int .i64 g.n,.slice eo g.e.length cap] 24)).alloc (.cells #[.slice ao p.v.length ac,.slice bo p.e.length bc] 27))=w1:=⟨_,rfl⟩;rw[hw1] at HC1 HBXS ⊢;clear hw1 x0 x1 y0 y1 hsz;refine (blocks_any _ _ g p _ hpl (HG.out.fresh HC1.out) (HP.out.fresh HC1.out)).mono ?_;rintro e w2 ⟨ov,rfl,hno,hyes,hc2⟩;have HC2:=lh (HC1.out.t hc2);obtain⟨x0,x1,y0,y1,hsz⟩:=HBXS.out _ hc2;clear hc2;by_cases hr:p.err g=0
 ·obtain⟨xs,hne⟩:=hyes hr
  have HNE:=lh hne;have HR:=lh hr;have HONE:=lh (Plain.solid_one hr);obtain⟨uo,uc,rfl⟩:=hne.shape;obtain⟨K,hK⟩:∃ K,Plain.keysB g p=K:=⟨_,rfl⟩;rw[hr];rw[hK] at HNE HONE ⊢;clear hne hno hyes hr hK;by_cases h1:K.length=1
  ·obtain⟨gb,gc,hgb⟩:=HNE.out.some (by omega)
   simp only[Value.slice.injEq] at hgb;obtain⟨rfl,-,-⟩:=hgb;have c0:=HNE.out.cell (k:=0) (by rw[HNE.out.cells];omega);have c1:=HNE.out.cell (k:=1) (by rw[HNE.out.cells];omega);have r0:=HNE.out.row (pcs_even (Plain.blkV g p) (Plain.blkE g p) K 0 (by omega));have r1:=HNE.out.row (pcs_odd (Plain.blkV g p) (Plain.blkE g p) K 0 (by omega));obtain⟨V,hV⟩:∃ V,Plain.blkV g p (K.getD 0 0)=V:=⟨_,rfl⟩;obtain⟨E,hE⟩:∃ E,Plain.blkE g p (K.getD 0 0)=E:=⟨_,rfl⟩;rw[hV] at r0;rw[hE] at r1;rw[hV,hE] at HONE;obtain⟨u0,hu0⟩:∃ u0,xs.getD 0 undef=u0:=⟨_,rfl⟩;obtain⟨u1,hu1⟩:∃ u1,xs.getD 1 undef=u1:=⟨_,rfl⟩;have r1':RowAt w2 w1.heap.size (xs.getD 1 undef) E:=r1;have r0':RowAt w2 w1.heap.size (xs.getD 0 undef) V:=r0;rw[hu0] at c0 r0';rw[hu1] at c1 r1';have HPT:=lh (show PtAt w2 (.agg #[u0,u1]) ⟨V,E⟩ from⟨u0,u1,rfl,r0'.ints,r1'.ints⟩);have HP2:=lh (HP.out.fresh HC2.out);have bl:((K.length:Int)==1)=true:=by rw[h1];rfl
   have hlt0:0<K.length:=by omega
   have HSB:=lh (show Plain.solidB g p=(decide (V=p.v)&&decide (E=p.e)) by
    rw[Bool.eq_iff_iff,Plain.solidB_iff,Bool.and_eq_true,decide_eq_true_iff,decide_eq_true_iff,←HONE.out];exact⟨fun k=>k.2.2,fun k=>⟨HR.out,h1,k⟩⟩)
   have HL1:=lh h1;clear r0 r1 r0' r1' hV hE hu0 hu1 x0 x1 h1 HNE
   go_wp2_with fail
   have hS0:Chg [] w2 w2.drew:=(Chg.refl [] w2).drew;refine wp_region_way (Chg [] w2) [0,1,2,3,4,5,6,7,8,9,10,11,13,14] (Way.line [0,1,2,3,4,5,6,7,8,9,10,11,12,13,14] .done) (by kernel_rfl) (by kernel_rfl) ?_;simp only[Way.line]
   repeat
    first
     | (refine along_off rfl (by rfl) (by rfl) (fun _ _ _ h=>h) hS0 ?_;simp only[Act.put,Z1,Z2,Z3,Z4,Z5,Z6])
     | (refine along_read (v:=?_) rfl (by rfl) (by rfl) (fun _ _ _ h=>h) hS0 (fun w' hS'=>?_) ?_;rotate_left;(focus (have rd0:=hS'.c c0;have rd1:=hS'.c c1;have rd2:=hS'.c y0;have rd3:=hS'.c y1;clear hS';go_simp;try with_reducible rfl));simp only[Act.put,Z1,Z2,Z3,Z4,Z5,Z6])
     | (refine along_skip rfl (by rfl) (by rfl) hS0 ?_;simp only[Act.put,Z1,Z2,Z3,Z4,Z5,Z6])
   refine along_op rfl (by rfl) (by rfl) (fun K hK=>?_);go_simp;refine (gsame_any _ _ ⟨V,E⟩ p _ (HPT.out.fresh hS0) (HP2.out.fresh hS0)).mono ?_;rintro e w3 ⟨rfl,hcx⟩;have hS1:=hS0.t hcx;clear hS0 hcx;have hS0:=hS1;clear hS1;refine hK.out _ _ (fun _=>hS0) ?_;clear hK K
   try simp only
   repeat
    first
     | (refine along_off rfl (by rfl) (by rfl) (fun _ _ _ h=>h) hS0 ?_;simp only[Act.put,Z1,Z2,Z3,Z4,Z5,Z6])
     | (refine along_read (v:=?_) rfl (by rfl) (by rfl) (fun _ _ _ h=>h) hS0 (fun w' hS'=>?_) ?_;rotate_left;(focus (skip;clear hS';go_simp;try with_reducible rfl));simp only[Act.put,Z1,Z2,Z3,Z4,Z5,Z6])
     | (refine along_skip rfl (by rfl) (by rfl) hS0 ?_;simp only[Act.put,Z1,Z2,Z3,Z4,Z5,Z6])
   refine along_done ?_;have HC3:=lh (HC2.out.t hS0);clear hS0 c0 c1 y0 y1 hsz;generalize w3=w4 at *;go_wp2;go_ret;exact⟨ret_bool (by show _=Plain.solidB g p;rw[HSB.out]),HC3.out⟩
  have bl:((K.length:Int)==1)=false:=by rw[beq_eq_false_iff_ne];omega
  have HSB:=lh (show Plain.solidB g p=false by
   rw[Bool.eq_false_iff];intro k;exact h1 (HONE.out.2 (Plain.solidB_iff.1 k).2).1)
  clear x0 x1 h1
  go_wp2_with fail
  have hS0:Chg [] w2 w2.drew:=(Chg.refl [] w2).drew;refine wp_region_way (Chg [] w2) [0,1,2,3,4,5,6,7,8,9,10,11,13,14] (Way.line [0,1,2,3,4,5,6,7,8,9,10,11,12,13,14] .done) (by kernel_rfl) (by kernel_rfl) ?_;simp only[Way.line]
  repeat
   first
    | (refine along_off rfl (by rfl) (by rfl) (fun _ _ _ h=>h) hS0 ?_;simp only[Act.put,Z1,Z2,Z3,Z4,Z5,Z6])
    | (refine along_read (v:=?_) rfl (by rfl) (by rfl) (fun _ _ _ h=>h) hS0 (fun w' hS'=>?_) ?_;rotate_left;(focus (have rd0:=hS'.c y0;have rd1:=hS'.c y1;clear hS';go_simp;try with_reducible rfl));simp only[Act.put,Z1,Z2,Z3,Z4,Z5,Z6])
    | (refine along_skip rfl (by rfl) (by rfl) hS0 ?_;simp only[Act.put,Z1,Z2,Z3,Z4,Z5,Z6])
  refine along_done ?_;have HC3:=lh (HC2.out.t hS0);clear hS0 y0 y1 hsz;generalize w2.drew=w4 at *;go_wp2;go_ret;exact⟨ret_bool (by show _=Plain.solidB g p;rw[HSB.out]),HC3.out⟩
 have HSB:=lh (show Plain.solidB g p=false by
  rw[Bool.eq_false_iff];intro k;exact hr (Plain.solidB_iff.1 k).1)
 obtain rfl:=hno hr;obtain⟨er,her⟩:∃ er,p.err g=er:=⟨_,rfl⟩;rw[her] at hr ⊢;have bz:(er==0)=false:=by rw[beq_eq_false_iff_ne];exact hr
 clear hr her x0 x1 hno hyes
 go_wp2_with fail
 have hS0:Chg [] w2 w2.drew:=(Chg.refl [] w2).drew;refine wp_region_way (Chg [] w2) [0,1,2,3,4,5,6,7,8,9,10,11,13,14] (Way.line [0,1,2,3,4,5,6,7,8,9,10,11,12,13,14] .done) (by kernel_rfl) (by kernel_rfl) ?_;simp only[Way.line]
 repeat
  first
   | (refine along_off rfl (by rfl) (by rfl) (fun _ _ _ h=>h) hS0 ?_;simp only[Act.put,Z1,Z2,Z3,Z4,Z5,Z6])
   | (refine along_read (v:=?_) rfl (by rfl) (by rfl) (fun _ _ _ h=>h) hS0 (fun w' hS'=>?_) ?_;rotate_left;(focus (have rd0:=hS'.c y0;have rd1:=hS'.c y1;clear hS';go_simp;try with_reducible rfl));simp only[Act.put,Z1,Z2,Z3,Z4,Z5,Z6])
   | (refine along_skip rfl (by rfl) (by rfl) hS0 ?_;simp only[Act.put,Z1,Z2,Z3,Z4,Z5,Z6])
 refine along_done ?_;have HC3:=lh (HC2.out.t hS0);clear hS0 y0 y1 hsz;generalize w2.drew=w4 at *;go_wp2;go_ret;exact⟨ret_bool (by show _=Plain.solidB g p;rw[HSB.out]),HC3.out⟩
namespace Plain
noncomputable def apartB (g:Gr) (p:Pt) (v e f:Int):Bool:=@decide (Apart g p v e f) (Classical.propDecidable _)
theorem apartB_iff {g:Gr} {p:Pt} {v e f:Int}:apartB g p v e f=true↔Apart g p v e f:=by unfold apartB;exact @decide_eq_true_iff _ (Classical.propDecidable _)
theorem apartB_same (g:Gr) (p:Pt) (v e:Int):apartB g p v e e=false:=by
 rw[Bool.eq_false_iff];intro h;exact (apartB_iff.1 h).1 rfl
theorem apartB_loop {g:Gr} {p:Pt} {v e f:Int} (hne:e≠f) (h:((g.at e).1=v∧(g.at e).2=v)∨((g.at f).1=v∧(g.at f).2=v)):apartB g p v e f=true:=by
 rw[apartB_iff];exact⟨hne,h.elim Or.inl fun k=>Or.inr (Or.inl k)⟩
theorem apartB_come {g:Gr} {p:Pt} {v e f:Int} {M:List Int} (hne:e≠f) (h1:¬ ((g.at e).1=v∧(g.at e).2=v)) (h2:¬ ((g.at f).1=v∧(g.at f).2=v)) (hM:∀ u,u∈M↔Come g p v (off g v e) u):apartB g p v e f=!decide (off g v f∈M):=by
 rw[Bool.eq_iff_iff,apartB_iff,Bool.not_eq_true',decide_eq_false_iff_not,hM];constructor
 ·rintro ⟨-,k | k | k⟩
  ·exact absurd k h1
  ·exact absurd k h2
  exact k
 exact fun k=>⟨hne,Or.inr (Or.inr k)⟩
end Plain
theorem edge_vars (w:World) (A B:Array Value) (t:TypeId):((w.alloc (.cells A t)).alloc (.cells B t)).drew.heap[w.heap.size]?=some (.cells A t (0,0))∧((w.alloc (.cells A t)).alloc (.cells B t)).drew.heap[w.heap.size+1]?=some (.cells B t (0,0)) ∧
  Chg [] w ((w.alloc (.cells A t)).alloc (.cells B t)).drew:=by
 have hc:=((Chg.refl [] w).alloc (.cells A t));have h1:=heap_alloc_new w (.cells A t);have h2:=heap_alloc_new (w.alloc (.cells A t)) (.cells B t);rw[show (w.alloc (.cells A t)).heap.size=w.heap.size+1 by simp] at h2;exact⟨((Chg.refl [] (w.alloc (.cells A t))).alloc (.cells B t)).drew.heap h1 (by simp),(Chg.refl [] ((w.alloc (.cells A t)).alloc (.cells B t))).drew.heap h2 (by simp),(hc.alloc _).drew⟩
set_option maxRecDepth 100000 in
set_option maxHeartbeats 4000000 in
theorem apart_any (vg vp:Value) (g:Plain.Gr) (p:Plain.Pt) (v e f:Int) (w:World) (hV:p.v.length≤1000000) (hE:p.e.length≤1000000) (hr:p.err g=0) (he:e∈p.e) (hf:f∈p.e) (hg:GrAt w vg g) (hp:PtAt w vp p) :
  Calls Tryz.prog 162 #[vg,vp,.int .i64 v,.int .i64 e,.int .i64 f] w fun x w'=>x=.returned (.bool (Plain.apartB g p v e f))∧Chg [] w w':=by
 have HR:=lh hr;have HPK:=lh (Plain.Pt.ok_of_err hr);have hge:=Plain.Gr.err_ok (Plain.Pt.err_ok hr).1;have he2:=Plain.Pt.edge_in hr he;have hf2:=Plain.Pt.edge_in hr hf;have HE2:=lh he;have HF2:=lh hf;have hse:=hge.2.2.1;have hse0:=hge.1;have HG:=lh hg;have HP:=lh hp;obtain⟨eo,cap,rfl,hn,hm,hsm,hcell⟩:=hg;obtain⟨v1,v2,rfl,hv,he⟩:=hp;obtain⟨ao,ac,rfl,has,ham,hacell⟩:=hv;obtain⟨bo,bc,rfl,hbs,hbm,hbcell⟩:=he;have HAC:=lh hacell;have HBC:=lh hbcell;have HAS:=lh has;have HBS:=lh hbs;obtain⟨-,-,hc1⟩:=box_two w #[.int .i64 g.n,.slice eo g.e.length cap] #[.slice ao p.v.length ac,.slice bo p.e.length bc] 24 27;have HC1:=lh hc1;have HBXS:=lh (fun w2 h=>two_boxes w (g:=g) (p:=p) (eo:=eo) (ao:=ao) (bo:=bo) (cap:=cap) (ac:=ac) (bc:=bc) (w2:=w2) h);clear hcell hacell hbcell hsm has hbs hn hc1;obtain⟨x0,x1,y0,y1,hsz⟩:=HBXS.out _ (Chg.refl _ _);clear hge he2 hf2 hse hse0
 go_enter Tryz.func162,Tryz.ntmps162
 go_upto_region 1 with fail
 obtain⟨w1,hw1⟩:∃ w1,((w.alloc (.cells #[.int .i64 g.n,.slice eo g.e.length cap] 24)).alloc (.cells #[.slice ao p.v.length ac,.slice bo p.e.length bc] 27))=w1:=⟨_,rfl⟩;rw[hw1] at HC1 HBXS ⊢;clear hw1 x0 x1 y0 y1 hsz;obtain⟨x0,x1,y0,y1,hsz⟩:=HBXS.out w1 (Chg.refl _ _);have hge:=Plain.Gr.err_ok (Plain.Pt.err_ok HR.out).1;have he2:=Plain.Pt.edge_in HR.out he;have hf2:=Plain.Pt.edge_in HR.out hf;have hse:=hge.2.2.1;have hse0:=hge.1;obtain⟨en,rfl⟩:∃ en:Nat,e=en:=⟨e.toNat,by omega⟩;obtain⟨fn,rfl⟩:∃ fn:Nat,f=fn:=⟨f.toNat,by omega⟩;have hel:en<g.e.length:=by omega
 have hfl:fn<g.e.length:=by omega
 have hei:en<2000:=by omega
 have hfi:fn<2000:=by omega
 obtain⟨eo2,cap2,eq2,-,-,-,hcl⟩:=HG.out;cases eq2;obtain⟨gb,goff,rfl,a0,a1⟩:=hcl en hel;obtain⟨gb2,goff2,eqq,b0,b1⟩:=hcl fn hfl;simp only[Option.some.injEq,Addr.mk.injEq,and_true] at eqq;obtain⟨rfl,rfl⟩:=eqq;have HAE:=lh (show g.at (en:Int)=g.ends en by unfold Plain.Gr.at;rw[Int.toNat_natCast]);have HAF:=lh (show g.at (fn:Int)=g.ends fn by unfold Plain.Gr.at;rw[Int.toNat_natCast]);obtain⟨ea,hea⟩:∃ ea,(g.ends en).1=ea:=⟨_,rfl⟩;obtain⟨eb,heb⟩:∃ eb,(g.ends en).2=eb:=⟨_,rfl⟩;obtain⟨fa,hfa⟩:∃ fa,(g.ends fn).1=fa:=⟨_,rfl⟩;obtain⟨fb,hfb⟩:∃ fb,(g.ends fn).2=fb:=⟨_,rfl⟩;rw[hea] at a0;rw[heb] at a1;rw[hfa] at b0;rw[hfb] at b1;have HEA:=lh (show (g.at (en:Int)).1=ea by rw[HAE.out,hea]);have HEB:=lh (show (g.at (en:Int)).2=eb by rw[HAE.out,heb]);have HFA:=lh (show (g.at (fn:Int)).1=fa by rw[HAF.out,hfa]);have HFB:=lh (show (g.at (fn:Int)).2=fb by rw[HAF.out,hfb]);have a0':=HC1.out.c a0;have a1':=HC1.out.c a1;have b0':=HC1.out.c b0;have b1':=HC1.out.c b1;clear hge he2 hf2 he hf hcl a0 a1 b0 b1 hea heb hfa hfb hse hse0
 go_cut [11,12] (fun c11 c12 wc=>∃ xb yb,c11=.pointer (some ⟨xb,0,none⟩)∧c12=.pointer (some ⟨yb,0,none⟩)∧wc.heap[xb]?=some (.cells #[.int .i64 ea,.int .i64 eb] 65 (0,0))∧wc.heap[yb]?=some (.cells #[.int .i64 fa,.int .i64 fb] 65 (0,0))∧Chg [] w1 wc)
 case first =>
  have hS0:Chg [] w1 w1.drew:=(Chg.refl [] w1).drew;refine wp_region_way (Chg [] w1) [0,1,2,3,4,5,6,7,8,9] (Way.line [0,1,2,3,4,5,6,7,8,9] (.fork 10 11 (Way.line [11,12,13] .done) (Way.line [10,12,13] .done))) (by kernel_rfl) (by kernel_rfl) ?_;simp only[Way.line]
  repeat
   first
    | (refine along_off rfl (by rfl) (by rfl) (fun _ _ _ h=>h) hS0 ?_;simp only[Act.put,Z1,Z2,Z3,Z4,Z5,Z6])
    | (refine along_read (v:=?_) rfl (by rfl) (by rfl) (fun _ _ _ h=>h) hS0 (fun w' hS'=>?_) ?_;rotate_left;(focus (have rd0:=hS'.c x1;have rd1:=hS'.c a0';have rd2:=hS'.c a1';have rd3:=hS'.c b0';have rd4:=hS'.c b1';clear hS';go_simp;try with_reducible rfl));simp only[Act.put,Z1,Z2,Z3,Z4,Z5,Z6])
    | (refine along_skip rfl (by rfl) (by rfl) hS0 ?_;simp only[Act.put,Z1,Z2,Z3,Z4,Z5,Z6])
  refine along_fork (by rfl) (by rfl) ?_ ?_
  ·refine along_op rfl (by rfl) (by rfl) (fun K hK=>?_)
   go_simp;refine hK.out _ _ (fun _=>hS0.alloc _) ?_;clear hK K
   try simp only[Act.put,Z1,Z2,Z3,Z4,Z5,Z6]
   refine along_op rfl (by rfl) (by rfl) (fun K hK=>?_);go_simp;refine hK.out _ _ (fun _=>(hS0.alloc _).alloc _) ?_;clear hK K
   try simp only[Act.put,Z1,Z2,Z3,Z4,Z5,Z6]
   refine along_op rfl (by rfl) (by rfl) (fun K hK=>?_);go_simp;refine hK.out _ _ (fun _=>(hS0.alloc _).alloc _) ?_;clear hK K
   try simp only[Act.put,Z1,Z2,Z3,Z4,Z5,Z6]
   refine along_op rfl (by rfl) (by rfl) (fun K hK=>?_);go_simp;refine hK.out _ _ (fun h=>absurd h (Bool.eq_false_iff.1 (by kernel_rfl))) ?_;clear hK K
   try simp only[Act.put,Z1,Z2,Z3,Z4,Z5,Z6]
   refine along_done ?_;clear hS0 x1 a0' a1' b0' b1';go_wp2
   go_meet
   case rel =>
    obtain⟨q1,q2,q3⟩:=edge_vars w1 #[.int .i64 ea,.int .i64 eb] #[.int .i64 fa,.int .i64 fb] 65;exact⟨_,_,rfl,rfl,q1,q2,q3⟩
  refine along_op rfl (by rfl) (by rfl) (fun K hK=>?_);go_simp;refine hK.out _ _ (fun _=>hS0.alloc _) ?_;clear hK K
  try simp only[Act.put,Z1,Z2,Z3,Z4,Z5,Z6]
  refine along_op rfl (by rfl) (by rfl) (fun K hK=>?_);go_simp;refine hK.out _ _ (fun _=>(hS0.alloc _).alloc _) ?_;clear hK K
  try simp only[Act.put,Z1,Z2,Z3,Z4,Z5,Z6]
  refine along_op rfl (by rfl) (by rfl) (fun K hK=>?_);go_simp;refine hK.out _ _ (fun _=>(hS0.alloc _).alloc _) ?_;clear hK K
  try simp only[Act.put,Z1,Z2,Z3,Z4,Z5,Z6]
  refine along_op rfl (by rfl) (by rfl) (fun K hK=>?_);go_simp;refine hK.out _ _ (fun h=>absurd h (Bool.eq_false_iff.1 (by kernel_rfl))) ?_;clear hK K
  try simp only[Act.put,Z1,Z2,Z3,Z4,Z5,Z6]
  refine along_done ?_;clear hS0 x1 a0' a1' b0' b1';go_wp2
  go_meet
  case rel =>
   obtain⟨q1,q2,q3⟩:=edge_vars w1 #[.int .i64 fa,.int .i64 fb] #[.int .i64 ea,.int .i64 eb] 65;exact⟨_,_,rfl,rfl,q2,q1,q3⟩
 case rest =>
  obtain⟨xb,yb,rfl,rfl,hx,hy,hc⟩:=hcut;have HC:=lh hc;have HX:=lh hx;have HY:=lh hy;have q0:=(cell_of_row _ _ 0 _ _ _ hx).trans (show _=some (Value.int .i64 ea) from rfl);have q1:=(cell_of_row _ _ 1 _ _ _ hx).trans (show _=some (Value.int .i64 eb) from rfl);have q2:=(cell_of_row _ _ 0 _ _ _ hy).trans (show _=some (Value.int .i64 fa) from rfl);have q3:=(cell_of_row _ _ 1 _ _ _ hy).trans (show _=some (Value.int .i64 fb) from rfl);clear hx hy hc x0 x1 y0 y1 a0' a1' b0' b1' hsz;by_cases h0:en=fn
  ·subst h0
   have HF:=lh (Plain.apartB_same g p v en);go_wp2;go_ret;exact⟨ret_bool (by show _=Plain.apartB g p v en en;rw[HF.out]),HC1.out.t HC.out⟩
  have b0:((en:Int)==(fn:Int))=false:=by rw[beq_eq_false_iff_ne];omega
  have HNE:=lh (show (en:Int)≠fn by omega);clear h0;by_cases p1:ea=v
  ·have b1:(ea==v)=true:=by rw[beq_iff_eq];exact p1
   by_cases p2:eb=v
   ·have b2:(eb==v)=true:=by rw[beq_iff_eq];exact p2
    have HT:=lh (Plain.apartB_loop (g:=g) (p:=p) (v:=v) HNE.out (Or.inl ⟨HEA.out.trans p1,HEB.out.trans p2⟩));clear p1 p2;go_wp2;go_ret;exact⟨ret_bool (by show _=Plain.apartB g p v en fn;rw[HT.out]),HC1.out.t HC.out⟩
   have b2:(eb==v)=false:=by rw[beq_eq_false_iff_ne];exact p2
   by_cases p3:fa=v
   ·have b3:(fa==v)=true:=by rw[beq_iff_eq];exact p3
    by_cases p4:fb=v
    ·have b4:(fb==v)=true:=by rw[beq_iff_eq];exact p4
     have HT:=lh (Plain.apartB_loop (g:=g) (p:=p) (v:=v) HNE.out (Or.inr ⟨HFA.out.trans p3,HFB.out.trans p4⟩));clear p1 p2 p3 p4;go_wp2;go_ret;exact⟨ret_bool (by show _=Plain.apartB g p v en fn;rw[HT.out]),HC1.out.t HC.out⟩
    have b4:(fb==v)=false:=by rw[beq_eq_false_iff_ne];exact p4
    have HOE:=lh (show Plain.off g v en=eb by unfold Plain.off;rw[HEA.out,HEB.out,if_pos p1]);have HOF:=lh (show Plain.off g v fn=fb by unfold Plain.off;rw[HFA.out,HFB.out,if_pos p3]);have HAB:=lh (fun M hM=>Plain.apartB_come (g:=g) (p:=p) (v:=v) (M:=M) HNE.out (by rw[HEA.out,HEB.out];exact fun k=>p2 k.2) (by rw[HFA.out,HFB.out];exact fun k=>p4 k.2) hM);have HOV:=lh (show eb∈p.v from by have:=HPK.out.ends _ HE2.out;rw[HEA.out,HEB.out] at this;exact this.2);have I1:I64 eb:=by have h1:=HPK.out.vr _ HOV.out;have h2:=(Plain.Gr.err_ok (Plain.Pt.err_ok HR.out).1).2.1;exact I64.mk (by omega) (by omega)
    clear p1 p3 p2 p4
    go_wp2_with fail
    have hS0:Chg [] wc wc.drew:=(Chg.refl [] wc).drew;refine wp_region_way (Chg [] wc) [0,1,2,3,4,5] (Way.line [0,1,2,3,4,5] .done) (by kernel_rfl) (by kernel_rfl) ?_;simp only[Way.line]
    repeat
     first
      | (refine along_off rfl (by rfl) (by rfl) (fun _ _ _ h=>h) hS0 ?_;simp only[Act.put,Z1,Z2,Z3,Z4,Z5,Z6])
      | (refine along_read (v:=?_) rfl (by rfl) (by rfl) (fun _ _ _ h=>h) hS0 (fun w' hS'=>?_) ?_;rotate_left;(focus (have rd0:=hS'.c q0;have rd1:=hS'.c q2;clear hS';go_simp;try with_reducible rfl));simp only[Act.put,Z1,Z2,Z3,Z4,Z5,Z6])
      | (refine along_skip rfl (by rfl) (by rfl) hS0 ?_;simp only[Act.put,Z1,Z2,Z3,Z4,Z5,Z6])
    refine along_done ?_;have HC4:=lh (HC.out.t hS0);have q1:=hS0.c q1;have q3:=hS0.c q3;obtain⟨x0,x1,y0,y1,hsz⟩:=HBXS.out _ HC4.out;clear q0 q2 hS0;generalize wc.drew=w4 at *
    go_wp2_with fail
    have ca:=(Chg.refl [] w4).alloc (.cells #[.int .i64 eb] 3);refine (spread_any _ _ _ g p eb v _ hV hE HR.out HOV.out (HG.out.fresh ((HC1.out.t HC4.out).t ca)) (HP.out.fresh ((HC1.out.t HC4.out).t ca)) (lit_ints w4 I1)).mono ?_;rintro _ w5 ⟨v5,M,rfl,hr5,hM,-,hc5⟩;have HR5:=lh hr5;have HMM:=lh (HAB.out M (by rw[HOE.out];exact hM));have HC5:=lh (((HC1.out.t HC4.out).t ca).t hc5);clear hr5 hM hc5 ca x0 x1 y0 y1 hsz q1 q3
    go_wp2_with fail
    refine (in_any _ M _ _ HR5.out.ints).mono ?_;rintro _ w6 ⟨rfl,hc6⟩;have HC6:=lh (HC5.out.t hc6);clear hc6;go_wp2;go_ret;exact⟨ret_bool (by show _=Plain.apartB g p v en fn;rw[HMM.out,HOF.out]),HC6.out⟩
   have b3:(fa==v)=false:=by rw[beq_eq_false_iff_ne];exact p3
   have HOE:=lh (show Plain.off g v en=eb by unfold Plain.off;rw[HEA.out,HEB.out,if_pos p1]);have HOF:=lh (show Plain.off g v fn=fa by unfold Plain.off;rw[HFA.out,HFB.out,if_neg p3]);have HAB:=lh (fun M hM=>Plain.apartB_come (g:=g) (p:=p) (v:=v) (M:=M) HNE.out (by rw[HEA.out,HEB.out];exact fun k=>p2 k.2) (by rw[HFA.out,HFB.out];exact fun k=>p3 k.1) hM);have HOV:=lh (show eb∈p.v from by have:=HPK.out.ends _ HE2.out;rw[HEA.out,HEB.out] at this;exact this.2);have I1:I64 eb:=by have h1:=HPK.out.vr _ HOV.out;have h2:=(Plain.Gr.err_ok (Plain.Pt.err_ok HR.out).1).2.1;exact I64.mk (by omega) (by omega)
   clear p1 p3 p2
   go_wp2_with fail
   have hS0:Chg [] wc wc.drew:=(Chg.refl [] wc).drew;refine wp_region_way (Chg [] wc) [0,1,2,3,4,5] (Way.line [0,1,2,3,4,5] .done) (by kernel_rfl) (by kernel_rfl) ?_;simp only[Way.line]
   repeat
    first
     | (refine along_off rfl (by rfl) (by rfl) (fun _ _ _ h=>h) hS0 ?_;simp only[Act.put,Z1,Z2,Z3,Z4,Z5,Z6])
     | (refine along_read (v:=?_) rfl (by rfl) (by rfl) (fun _ _ _ h=>h) hS0 (fun w' hS'=>?_) ?_;rotate_left;(focus (have rd0:=hS'.c q0;have rd1:=hS'.c q2;clear hS';go_simp;try with_reducible rfl));simp only[Act.put,Z1,Z2,Z3,Z4,Z5,Z6])
     | (refine along_skip rfl (by rfl) (by rfl) hS0 ?_;simp only[Act.put,Z1,Z2,Z3,Z4,Z5,Z6])
   refine along_done ?_;have HC4:=lh (HC.out.t hS0);have q1:=hS0.c q1;have q3:=hS0.c q3;obtain⟨x0,x1,y0,y1,hsz⟩:=HBXS.out _ HC4.out;clear q0 q2 hS0;generalize wc.drew=w4 at *
   go_wp2_with fail
   have ca:=(Chg.refl [] w4).alloc (.cells #[.int .i64 eb] 3);refine (spread_any _ _ _ g p eb v _ hV hE HR.out HOV.out (HG.out.fresh ((HC1.out.t HC4.out).t ca)) (HP.out.fresh ((HC1.out.t HC4.out).t ca)) (lit_ints w4 I1)).mono ?_;rintro _ w5 ⟨v5,M,rfl,hr5,hM,-,hc5⟩;have HR5:=lh hr5;have HMM:=lh (HAB.out M (by rw[HOE.out];exact hM));have HC5:=lh (((HC1.out.t HC4.out).t ca).t hc5);clear hr5 hM hc5 ca x0 x1 y0 y1 hsz q1 q3
   go_wp2_with fail
   refine (in_any _ M _ _ HR5.out.ints).mono ?_;rintro _ w6 ⟨rfl,hc6⟩;have HC6:=lh (HC5.out.t hc6);clear hc6;go_wp2;go_ret;exact⟨ret_bool (by show _=Plain.apartB g p v en fn;rw[HMM.out,HOF.out]),HC6.out⟩
  have b1:(ea==v)=false:=by rw[beq_eq_false_iff_ne];exact p1
  by_cases p3:fa=v
  ·have b3:(fa==v)=true:=by rw[beq_iff_eq];exact p3
   by_cases p4:fb=v
   ·have b4:(fb==v)=true:=by rw[beq_iff_eq];exact p4
    have HT:=lh (Plain.apartB_loop (g:=g) (p:=p) (v:=v) HNE.out (Or.inr ⟨HFA.out.trans p3,HFB.out.trans p4⟩));clear p1 p3 p4;go_wp2;go_ret;exact⟨ret_bool (by show _=Plain.apartB g p v en fn;rw[HT.out]),HC1.out.t HC.out⟩
   have b4:(fb==v)=false:=by rw[beq_eq_false_iff_ne];exact p4
   have HOE:=lh (show Plain.off g v en=ea by unfold Plain.off;rw[HEA.out,HEB.out,if_neg p1]);have HOF:=lh (show Plain.off g v fn=fb by unfold Plain.off;rw[HFA.out,HFB.out,if_pos p3]);have HAB:=lh (fun M hM=>Plain.apartB_come (g:=g) (p:=p) (v:=v) (M:=M) HNE.out (by rw[HEA.out,HEB.out];exact fun k=>p1 k.1) (by rw[HFA.out,HFB.out];exact fun k=>p4 k.2) hM);have HOV:=lh (show ea∈p.v from by have:=HPK.out.ends _ HE2.out;rw[HEA.out,HEB.out] at this;exact this.1);have I1:I64 ea:=by have h1:=HPK.out.vr _ HOV.out;have h2:=(Plain.Gr.err_ok (Plain.Pt.err_ok HR.out).1).2.1;exact I64.mk (by omega) (by omega)
   clear p1 p3 p4
   go_wp2_with fail
   have hS0:Chg [] wc wc.drew:=(Chg.refl [] wc).drew;refine wp_region_way (Chg [] wc) [0,1,2,3,4,5] (Way.line [0,1,2,3,4,5] .done) (by kernel_rfl) (by kernel_rfl) ?_;simp only[Way.line]
   repeat
    first
     | (refine along_off rfl (by rfl) (by rfl) (fun _ _ _ h=>h) hS0 ?_;simp only[Act.put,Z1,Z2,Z3,Z4,Z5,Z6])
     | (refine along_read (v:=?_) rfl (by rfl) (by rfl) (fun _ _ _ h=>h) hS0 (fun w' hS'=>?_) ?_;rotate_left;(focus (have rd0:=hS'.c q0;have rd1:=hS'.c q2;clear hS';go_simp;try with_reducible rfl));simp only[Act.put,Z1,Z2,Z3,Z4,Z5,Z6])
     | (refine along_skip rfl (by rfl) (by rfl) hS0 ?_;simp only[Act.put,Z1,Z2,Z3,Z4,Z5,Z6])
   refine along_done ?_;have HC4:=lh (HC.out.t hS0);have q1:=hS0.c q1;have q3:=hS0.c q3;obtain⟨x0,x1,y0,y1,hsz⟩:=HBXS.out _ HC4.out;clear q0 q2 hS0;generalize wc.drew=w4 at *
   go_wp2_with fail
   have ca:=(Chg.refl [] w4).alloc (.cells #[.int .i64 ea] 3);refine (spread_any _ _ _ g p ea v _ hV hE HR.out HOV.out (HG.out.fresh ((HC1.out.t HC4.out).t ca)) (HP.out.fresh ((HC1.out.t HC4.out).t ca)) (lit_ints w4 I1)).mono ?_;rintro _ w5 ⟨v5,M,rfl,hr5,hM,-,hc5⟩;have HR5:=lh hr5;have HMM:=lh (HAB.out M (by rw[HOE.out];exact hM));have HC5:=lh (((HC1.out.t HC4.out).t ca).t hc5);clear hr5 hM hc5 ca x0 x1 y0 y1 hsz q1 q3
   go_wp2_with fail
   refine (in_any _ M _ _ HR5.out.ints).mono ?_;rintro _ w6 ⟨rfl,hc6⟩;have HC6:=lh (HC5.out.t hc6);clear hc6;go_wp2;go_ret;exact⟨ret_bool (by show _=Plain.apartB g p v en fn;rw[HMM.out,HOF.out]),HC6.out⟩
  have b3:(fa==v)=false:=by rw[beq_eq_false_iff_ne];exact p3
  have HOE:=lh (show Plain.off g v en=ea by unfold Plain.off;rw[HEA.out,HEB.out,if_neg p1]);have HOF:=lh (show Plain.off g v fn=fa by unfold Plain.off;rw[HFA.out,HFB.out,if_neg p3]);have HAB:=lh (fun M hM=>Plain.apartB_come (g:=g) (p:=p) (v:=v) (M:=M) HNE.out (by rw[HEA.out,HEB.out];exact fun k=>p1 k.1) (by rw[HFA.out,HFB.out];exact fun k=>p3 k.1) hM);have HOV:=lh (show ea∈p.v from by have:=HPK.out.ends _ HE2.out;rw[HEA.out,HEB.out] at this;exact this.1);have I1:I64 ea:=by have h1:=HPK.out.vr _ HOV.out;have h2:=(Plain.Gr.err_ok (Plain.Pt.err_ok HR.out).1).2.1;exact I64.mk (by omega) (by omega)
  clear p1 p3
  go_wp2_with fail
  have hS0:Chg [] wc wc.drew:=(Chg.refl [] wc).drew;refine wp_region_way (Chg [] wc) [0,1,2,3,4,5] (Way.line [0,1,2,3,4,5] .done) (by kernel_rfl) (by kernel_rfl) ?_;simp only[Way.line]
  repeat
   first
    | (refine along_off rfl (by rfl) (by rfl) (fun _ _ _ h=>h) hS0 ?_;simp only[Act.put,Z1,Z2,Z3,Z4,Z5,Z6])
    | (refine along_read (v:=?_) rfl (by rfl) (by rfl) (fun _ _ _ h=>h) hS0 (fun w' hS'=>?_) ?_;rotate_left;(focus (have rd0:=hS'.c q0;have rd1:=hS'.c q2;clear hS';go_simp;try with_reducible rfl));simp only[Act.put,Z1,Z2,Z3,Z4,Z5,Z6])
    | (refine along_skip rfl (by rfl) (by rfl) hS0 ?_;simp only[Act.put,Z1,Z2,Z3,Z4,Z5,Z6])
  refine along_done ?_;have HC4:=lh (HC.out.t hS0);have q1:=hS0.c q1;have q3:=hS0.c q3;obtain⟨x0,x1,y0,y1,hsz⟩:=HBXS.out _ HC4.out;clear q0 q2 hS0;generalize wc.drew=w4 at *
  go_wp2_with fail
  have ca:=(Chg.refl [] w4).alloc (.cells #[.int .i64 ea] 3);refine (spread_any _ _ _ g p ea v _ hV hE HR.out HOV.out (HG.out.fresh ((HC1.out.t HC4.out).t ca)) (HP.out.fresh ((HC1.out.t HC4.out).t ca)) (lit_ints w4 I1)).mono ?_;rintro _ w5 ⟨v5,M,rfl,hr5,hM,-,hc5⟩;have HR5:=lh hr5;have HMM:=lh (HAB.out M (by rw[HOE.out];exact hM));have HC5:=lh (((HC1.out.t HC4.out).t ca).t hc5);clear hr5 hM hc5 ca x0 x1 y0 y1 hsz q1 q3
  go_wp2_with fail
  refine (in_any _ M _ _ HR5.out.ints).mono ?_;rintro _ w6 ⟨rfl,hc6⟩;have HC6:=lh (HC5.out.t hc6);clear hc6;go_wp2;go_ret;exact⟨ret_bool (by show _=Plain.apartB g p v en fn;rw[HMM.out,HOF.out]),HC6.out⟩
end Go.Proofs.YtmhcmnaecpagiaaGreat
