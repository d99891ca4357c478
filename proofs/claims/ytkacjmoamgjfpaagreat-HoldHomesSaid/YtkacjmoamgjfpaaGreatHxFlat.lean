/- package plan: the contracts of flat, of corner. Conditions: lists that lie in memory and read so, of a bounded size. -/
import Derived.Test.YtkacjmoamgjfpaaGreatHxGenus
namespace Go.Proofs.YtkacjmoamgjfpaaGreat
open Go.RowKit Go.Maps
theorem two_boxes (w:World) {g:Plain.Gr} {p:Plain.Pt} {eo ao bo:Option Addr} {cap ac bc:Nat} {w2:World} (h:Chg [] ((w.alloc (.cells #[.int .i64 g.n,.slice eo g.e.length cap] 24)).alloc (.cells #[.slice ao p.v.length ac,.slice bo p.e.length bc] 29)) w2) :
  w2.cell? ⟨w.heap.size,0,none⟩=some (.int .i64 g.n)∧w2.cell? ⟨w.heap.size,1,none⟩=some (.slice eo g.e.length cap)∧w2.cell? ⟨w.heap.size+1,0,none⟩=some (.slice ao p.v.length ac)∧w2.cell? ⟨w.heap.size+1,1,none⟩=some (.slice bo p.e.length bc)∧w.heap.size+2≤w2.heap.size:=by
 obtain⟨hb1,hb2,-⟩:=box_two w #[.int .i64 g.n,.slice eo g.e.length cap] #[.slice ao p.v.length ac,.slice bo p.e.length bc] 24 29
 have hs:=h.size
 exact⟨h.cell ((cell_of_row _ _ 0 _ _ _ hb1).trans rfl) (by simp),h.cell ((cell_of_row _ _ 1 _ _ _ hb1).trans rfl) (by simp),h.cell ((cell_of_row _ _ 0 _ _ _ hb2).trans rfl) (by simp),h.cell ((cell_of_row _ _ 1 _ _ _ hb2).trans rfl) (by simp),by simpa using hs⟩
set_option maxRecDepth 100000 in
set_option maxHeartbeats 2000000 in
theorem flat_any (vg vp vt:Value) (g:Plain.Gr) (p:Plain.Pt) (turn:List (List Int)) (w:World) (hpl:p.e.length≤100000) (hpv:p.v.length≤100000) (hTL:turn.length<2147483648) (hS:Plain.sumLen turn turn.length<2147483648) (hg:GrAt w vg g) (hp:PtAt w vp p) (ht:RowsAt w vt turn) :
  Calls Tryz.prog 65 #[vg,vp,vt] w fun e w'=>e=.returned (.int .i64 (Plain.flatErr g p turn))∧Chg [] w w':=by
 have HG:=lh hg
 have HP:=lh hp
 have HT:=lh ht
 have HSL:=lh hS
 obtain⟨eo,cap,rfl,hn,hm,hsm,hcell⟩:=hg
 obtain⟨v1,v2,rfl,hv,he⟩:=hp
 obtain⟨ao,ac,rfl,has,ham,hacell⟩:=hv
 obtain⟨bo,bc,rfl,hbs,hbm,hbcell⟩:=he
 obtain⟨tno,tc,rfl,htl,htc⟩:=ht
 obtain⟨-,-,hc1⟩:=box_two w #[.int .i64 g.n,.slice eo g.e.length cap] #[.slice ao p.v.length ac,.slice bo p.e.length bc] 24 29
 have HC1:=lh hc1
 clear hcell hacell hbcell hsm hbs has hn hc1 htc hS
 go_enter Tryz.func65,Tryz.ntmps65
 go_wp2_with fail
 refine (genus_any _ _ _ g p turn _ hpl hpv hTL HSL.out (HG.out.fresh HC1.out) (HP.out.fresh HC1.out) (HT.out.fresh HC1.out)).mono ?_
 rintro e w2 ⟨ov,rfl,hr1,hr2,hc2⟩
 have HC2:=lh (HC1.out.trans hc2 (by simp))
 clear hc2
 by_cases hr:Plain.turnErr g p turn=0
 ·obtain⟨W,hwk,hrow⟩:=hr2 hr
  have HWE:=lh (hwk.eq (Plain.turnErr_zero hr).1)
  have HR:=lh hr
  have HFE:=lh (show Plain.Flat g p turn↔∀ i,i<((Plain.roots g p).map (Plain.genusAt g p W)).length→((Plain.roots g p).map (Plain.genusAt g p W)).getD i 0=0 by
   unfold Plain.Flat
   rw[←HWE.out]
   constructor
   ·intro h i hi
    rw[List.length_map] at hi
    have:=h ((Plain.roots g p).getD i 0) (Plain.getD_mem hi)
    simpa[List.getD,hi] using this
   intro h r hr
   obtain⟨i,hi,e⟩:=List.getElem_of_mem hr
   have:=h i (by rw[List.length_map];exact hi)
   simpa[List.getD,hi,e] using this)
  rw[hr]
  obtain⟨oo,oc,rfl⟩:=hrow.shape
  have HROW:=lh hrow.ints
  have hll:=hrow.2.2
  clear hr1 hr2 hwk hrow hr HWE
  generalize (Plain.roots g p).map (Plain.genusAt g p W)=G at *
  go_wp2
  go_loopw [23] (fun c wr=>∃ k:Nat,k≤G.length∧c=.int .i64 k∧Hid (∀ i,i<k→G.getD i 0=0)∧Chg [] w2 wr) (fun c _=>G.length - (intOf c).toNat)
  case atStart=>exact⟨0,Nat.zero_le _,rfl,lh (fun i hi=>by omega),Chg.refl _ _⟩
  case round =>
   obtain⟨k,hk,rfl,hz,hc⟩:=hrel
   have HC:=lh (HC2.out.trans hc (by simp))
   have HCW:=lh hc
   by_cases hlt:k<G.length
   ·obtain⟨ao',c',e,-,-,hcc⟩:=HROW.out
    obtain⟨vb,voff,e2,hcell⟩:=hcc (by intro e;rw[e] at hlt;simp at hlt)
    simp only[Value.slice.injEq] at e
    obtain⟨e3,-,-⟩:=e
    rw[e2] at e3
    subst e3
    have ck:=hc.cell (hcell k hlt) (by simp)
    have HBAD:=lh (fun (h:G.getD k 0≠0)=>Plain.flatErr_bad HR.out (fun hf=>h (HFE.out.1 hf k hlt)))
    obtain⟨z,hz2⟩:∃ z,G.getD k 0=z:=⟨_,rfl⟩
    have HZ:=lh hz2
    rw[hz2] at ck HBAD
    clear hcell hcc hz2 hc
    by_cases h0:z=0
    ·subst h0
     go_wp2
     go_roundw
     case rel=>exact⟨k+1,by omega,by go_num,lh (fun i hi=>by
       by_cases e:i=k
       ·rw[e];exact HZ.out
       exact hz.out i (by omega)),HCW.out⟩
     case measure=>simp[intOf];omega
    have HB:=lh (HBAD.out h0)
    go_wp2
    go_ret
    exact⟨ret_int HB.out.symm,HC.out⟩
   have e:k=G.length:=by omega
   subst e
   have HB:=lh (show Plain.flatErr g p turn=0 from Plain.flatErr_ok HR.out (HFE.out.2 hz.out))
   clear hc
   go_wp2
   go_ret
   exact⟨ret_int HB.out.symm,HC.out⟩
 have HB:=lh (Plain.flatErr_turn hr)
 obtain rfl:=hr1 hr
 obtain⟨er,her⟩:∃ er,Plain.turnErr g p turn=er:=⟨_,rfl⟩
 rw[her] at hr HB ⊢
 clear her hr1 hr2
 go_wp2
 go_ret
 exact⟨ret_int HB.out.symm,HC2.out⟩
set_option maxRecDepth 100000 in
theorem corner_low (vg:Value) (g:Plain.Gr) (key:Int) (da:Option Addr) (dc:Nat) (w:World) (hk:-4611686018427387904≤key∧key≤4611686018427387904) (h:GrAt w vg g) :
  Calls Tryz.prog 125 #[vg,.agg #[.int .i64 key,.slice da 0 dc]] w fun e w'=>e=.returned (.int .i64 (-1 - key))∧Chg [] w w':=by
 obtain⟨eo,cap,rfl,-,-,-,-⟩:=h
 have HC1:=lh (((Chg.refl [] w).alloc (.cells #[.int .i64 g.n,.slice eo g.e.length cap] 24)).alloc (.cells #[.int .i64 key,.slice da 0 dc] 120))
 go_enter Tryz.func125,Tryz.ntmps125
 go_wp2
 go_ret
 exact⟨rfl,HC1.out⟩
set_option maxRecDepth 100000 in
theorem corner_high (vg:Value) (g:Plain.Gr) (d dn:Nat) (da:Option Addr) (dc:Nat) (w:World) (hdn:0<dn) (hd:d / 2<g.e.length) (hm:g.e.length<4294967296) (h:GrAt w vg g) :
  Calls Tryz.prog 125 #[vg,.agg #[.int .i64 d,.slice da dn dc]] w fun e w'=>e=.returned (.int .i64 (g.tail d))∧Chg [] w w':=by
 obtain⟨eo,cap,rfl,-,-,-,hcell⟩:=h
 obtain⟨b,off,rfl,hc0,hc1⟩:=hcell (d / 2) hd
 have HC1:=lh (((Chg.refl [] w).alloc (.cells #[.int .i64 g.n,.slice (some ⟨b,off,none⟩) g.e.length cap] 24)).alloc (.cells #[.int .i64 d,.slice da dn dc] 120))
 obtain⟨e,he⟩:∃ e,d / 2=e:=⟨_,rfl⟩
 rw[he] at hd hc0 hc1
 have c0:=HC1.out.cell hc0 (by simp)
 have c1:=HC1.out.cell hc1 (by simp)
 clear hcell hc0 hc1
 rcases (show d=2*e∨d=2*e+1 by omega) with rfl | rfl
 ·obtain⟨q1,q2⟩:=quo_even e
  have HE:=lh (dart_even g e).1
  rw[HE.out]
  clear he
  generalize ((2*e:Nat):Int)=dd at *
  generalize (g.ends e).1=x at *
  generalize (g.ends e).2=y at *
  go_enter Tryz.func125,Tryz.ntmps125
  go_wp2
  go_ret
  exact⟨rfl,HC1.out⟩
 obtain⟨q1,q2⟩:=quo_odd e
 have HE:=lh (dart_odd g e).1
 rw[HE.out]
 clear he
 generalize ((2*e+1:Nat):Int)=dd at *
 generalize (g.ends e).1=x at *
 generalize (g.ends e).2=y at *
 go_enter Tryz.func125,Tryz.ntmps125
 go_wp2
 go_ret
 exact⟨rfl,HC1.out⟩
namespace Plain
noncomputable def pieceIx (g:Gr) (p:Pt) (v:Int):Nat:=(roots g p).findIdx fun r=>decide (v∈comp g p r)
theorem pieceIx_eq {g:Gr} {p:Pt} (hp:PartOk g p) {v:Int} {n:Nat} (hn:n<(roots g p).length) (hv:v∈comp g p ((roots g p).getD n 0)):pieceIx g p v=n:=by
 unfold pieceIx
 have h1:(roots g p).findIdx (fun r=>decide (v∈comp g p r))<(roots g p).length:=List.findIdx_lt_length_of_exists ⟨_,getD_mem hn,decide_eq_true hv⟩
 have h2:=List.findIdx_getElem (w:=h1)
 have h3:v∈comp g p ((roots g p).getD ((roots g p).findIdx fun r=>decide (v∈comp g p r)) 0):=by
  have:=of_decide_eq_true h2
  simpa[List.getD,h1] using this
 exact comp_one hp (fun r hr=>hr) (roots_nodup hp) hn h1 (mem_comp.1 hv).2 h3
noncomputable def ownerOf (g:Gr) (p:Pt) (W:List Face) (k:Int):Option Int:=(W.find? fun f=>decide (f.1=k)).map fun f=>(pieceIx g p (f.corner g):Int)
theorem ownerOf_step {g:Gr} {p:Pt} {W:List Face} (hk:(W.map (·.1)).Pairwise (·<·)) {k:Nat} (hlt:k<W.length) :
  (fun y=>if y=(W.getD k (0,[])).1 then some (pieceIx g p ((W.getD k (0,[])).corner g):Int) else ownerOf g p (W.take k) y)=ownerOf g p (W.take (k+1)):=by
 funext y
 unfold ownerOf
 rw[take_face hlt,List.find?_append]
 have hg:W.getD k (0,[])=W[k]:=by simp[List.getD,hlt]
 by_cases e:y=(W.getD k (0,[])).1
 ·rw[if_pos e]
  have hno:(W.take k).find? (fun f=>decide (f.1=y))=none:=by
   rw[List.find?_eq_none]
   intro f hf q
   have q:=of_decide_eq_true q
   obtain⟨i,hi,e2⟩:=List.getElem_of_mem hf
   rw[List.length_take] at hi
   rw[List.getElem_take] at e2
   have:=List.pairwise_iff_getElem.1 hk i k (by simp;omega) (by simpa using hlt) (by omega)
   simp only[List.getElem_map] at this
   rw[e2,q,e,hg] at this
   omega
  rw[hno]
  simp[e]
 rw[if_neg e]
 have:List.find? (fun f:Face=>decide (f.1=y)) [W.getD k (0,[])]=none:=by
  rw[List.find?_eq_none]
  intro f hf q
  rw[List.mem_singleton.1 hf] at q
  exact e (of_decide_eq_true q).symm
 rw[this]
 simp
end Plain
theorem IMap.look_run {w:World} {b n:Nat} {f:Int→Option Int} (h:IMap w b n f) {k:Int} (hk:I64 k):(Instr.lookup 93 (.map (some b)) (.int .i64 k) false).run Tryz.prog w=.ok (.int .i64 ((f k).getD 0)) w:=by
 obtain⟨D,hown,hD⟩:=h
 obtain⟨c,hrun,hat,-⟩:=hown.lookup_int keyedInt Tryz.underlying93 Tryz.underlying3 (zeroInt _) (keyOf_int_mk Tryz.underlying3 hk)
 rw[(hD k hk).2] at hat
 cases hat
 exact hrun
theorem wpo_look {o:Oper} {a:Act} {K:Act→World→Prop} {Q:Exit→Act→World→Prop} {w:World} (m x:Operand) (hop:o.op=Op.lookup 93 m x false) {b n:Nat} {f:Int→Option Int} (h:IMap w b n f) (hm:a.eval m=.map (some b)) {k v:Int} (hk:I64 k) (hx:a.eval x=.int .i64 k) (hf:Hid ((f k).getD 0=v)) (hK:K (a.put o.dst (.int .i64 v)) w):o.wp Tryz.prog a w K Q:=by
 have hrun:=h.look_run hk
 rw[hf.out] at hrun
 unfold Oper.wp
 simp[execOp,hop,hm,hx,hrun,Result.andThen]
 exact hK
theorem wpo_store {o:Oper} {a:Act} {K:Act→World→Prop} {Q:Exit→Act→World→Prop} {w:World} (m x u:Operand) (hop:o.op=Op.mapUpdate 93 m x u) {b n:Nat} {f:Int→Option Int} (h:IMap w b n f) (hn:n<maxLen) (hm:a.eval m=.map (some b)) {k v:Int} (hk:I64 k) (hv:I64 v) (hx:a.eval x=.int .i64 k) (hu:a.eval u=.int .i64 v)
  (hK:∀ w',IMap w' b (n+1) (fun y=>if y=k then some v else f y)→w.grownBy w' (some b)→K (a.put o.dst undef) w'):o.wp Tryz.prog a w K Q:=by
 obtain⟨w',hrun,r1,r2⟩:=h.put_run hn hk hv
 unfold Oper.wp
 simp[execOp,hop,hm,hx,hu,hrun,Result.andThen]
 exact hK w' r1 r2
set_option maxRecDepth 100000 in
set_option maxHeartbeats 8000000 in
theorem owners_any (vg vp vt:Value) (g:Plain.Gr) (p:Plain.Pt) (turn:List (List Int)) (w:World) (hpl:p.e.length≤100000) (hpv:p.v.length≤100000) (hTL:turn.length<2147483648) (hS:Plain.sumLen turn turn.length<2147483648) (hr:Plain.turnErr g p turn=0) (hg:GrAt w vg g) (hp:PtAt w vp p) (ht:RowsAt w vt turn) :
  Calls Tryz.prog 66 #[vg,vp,vt] w fun e w'=>∃ b m,e=.returned (.tuple #[.map (some b),.int .i64 (Plain.roots g p).length])∧IMap w' b m (Plain.ownerOf g p (Plain.walksOf g p turn))∧Chg [] w w'∧w.heap.size≤b∧Plain.WalksOk g p turn (Plain.walksOf g p turn):=by
 have HG:=lh hg
 have HP:=lh hp
 have HT:=lh ht
 have HSL:=lh hS
 have HR:=lh hr
 have hpe:=(Plain.turnErr_zero hr).1
 have HPE:=lh hpe
 have HPO:=lh (Plain.Pt.ok_of_err hpe)
 have HEL:=lh (Plain.Gr.err_ok (Plain.Pt.err_ok hpe).1)
 obtain⟨eo,cap,rfl,hn,hm,hsm,hcell⟩:=hg
 obtain⟨v1,v2,rfl,hv,he⟩:=hp
 obtain⟨ao,ac,rfl,has,ham,hacell⟩:=hv
 obtain⟨bo,bc,rfl,hbs,hbm,hbcell⟩:=he
 obtain⟨tno,tc,rfl,htl,htc⟩:=ht
 obtain⟨-,-,hc1⟩:=box_two w #[.int .i64 g.n,.slice eo g.e.length cap] #[.slice ao p.v.length ac,.slice bo p.e.length bc] 24 29
 have HC1:=lh hc1
 have HBXS:=lh (fun w2 h=>two_boxes w (g:=g) (p:=p) (eo:=eo) (ao:=ao) (bo:=bo) (cap:=cap) (ac:=ac) (bc:=bc) (w2:=w2) h)
 clear hcell hacell hbcell hsm hbs has hn hc1 htc hS hr hpe
 go_enter Tryz.func66,Tryz.ntmps66
 go_wp2_with fail
 refine (pieces_any _ _ g p _ hpl hpv (HG.out.fresh HC1.out) (HP.out.fresh HC1.out)).mono ?_
 rintro e w3 ⟨ov3,rfl,-,hp2,hc3⟩
 obtain⟨xs,hnp⟩:=hp2 HPE.out
 have HPN0:=lh hnp
 obtain⟨uo,uc,rfl⟩:=hnp.shape
 have HC3:=lh (HC1.out.trans hc3 (by simp))
 have HC31:=lh hc3
 obtain⟨x0,x1,y0,y1,hsz⟩:=HBXS.out w3 hc3
 have HSZ3:=lh hsz
 have hmm:=@run_makeMap Tryz.prog
 rw[HPE.out]
 clear hp2 hc3 hnp x0 x1 y0 y1 hsz
 have hrl:(Plain.roots g p).length≤100000:=by rw[←Plain.rootsTo_all];exact Nat.le_trans (Plain.rootsTo_len g p _) hpv
 obtain⟨R,hRD⟩:∃ R,Plain.roots g p=R:=⟨_,rfl⟩
 have HRD:=lh hRD
 rw[hRD] at HPN0 hrl ⊢
 have HRR:=lh (show ∀ r∈R,r∈Plain.roots g p from fun r hr=>by rw[hRD];exact hr)
 have HRN:=lh (show R.Nodup by rw[←hRD];exact Plain.roots_nodup HPO.out)
 clear hRD
 go_wp2
 clear hmm
 have HPN:=HPN0
 have HM0:=lh (IMap.made w3)
 have HC4:=lh ((Chg.refl [] w3).alloc (.map #[] 0))
 obtain⟨pb,hpb⟩:∃ pb,w3.heap.size=pb:=⟨_,rfl⟩
 rw[hpb] at HM0 ⊢
 have HPB:=lh (show w3.heap.size≤pb by omega)
 clear hpb
 generalize w3.alloc (.map #[] 0)=w4 at *
 go_loopw [29] (fun c wr=>∃ (i:Nat) (f:Int→Option Int),i≤R.length∧c=.int .i64 i∧IMap wr pb (i*1000000) f∧Hid (Plain.Told g p R i 0 f)∧Chg [] w3 wr) (fun c _=>R.length - (intOf c).toNat)
 case atStart=>exact⟨0,_,Nat.zero_le _,rfl,by rw[Nat.zero_mul];exact HM0.out,lh (Plain.Told.start g p R _),HC4.out⟩
 case round =>
  obtain⟨i,f,hi,rfl,hm,htold,hc⟩:=hrel
  have HM:=lh hm
  have HC:=lh hc
  by_cases hlt:i<R.length
  ·obtain⟨pg,pc,va,vc,ea,ec,hpe,hc1,hc2,hr1,hr2⟩:=nest_pair (HPN.out.fresh hc) rfl hlt
   simp only[Value.slice.injEq] at hpe
   obtain⟨rfl,-,rfl⟩:=hpe
   have HTN:=lh (fun j f hj h=>Plain.Told.next (g:=g) (p:=p) (R:=R) (i:=i) (j:=j) (f:=f) HPO.out HRR.out HRN.out hlt hj h)
   have HTR:=lh (fun f h=>Plain.Told.row (g:=g) (p:=p) (R:=R) (i:=i) (f:=f) h)
   have hcl:=Nat.le_trans (Plain.comp_len g p (R.getD i 0)) hpv
   have HCM:=lh (fun y (hy:y∈Plain.comp g p (R.getD i 0))=>HPO.out.vr y (Plain.mem_comp.1 hy).1)
   have HR1:=lh hr1.ints
   have HTD:Hid (∀ j f,Plain.Told g p R i j f→Plain.Told g p R i j f):=lh (fun _ _ h=>h)
   obtain⟨C,hC⟩:∃ C,Plain.comp g p (R.getD i 0)=C:=⟨_,rfl⟩
   obtain⟨E0,hE0⟩:∃ E0,(p.sub g (Plain.comp g p (R.getD i 0))).e=E0:=⟨_,rfl⟩
   have HCE:=lh hC
   rw[hC] at hc1 hcl HTN HTR HCM HR1
   rw[hE0] at hc2
   have II:I64 (i:Int):=I64.mk (by omega) (by omega)
   clear hr1 hr2 hm hc hC hE0
   go_wp2
   have HBX:=lh ((Chg.refl [] wr).alloc (.cells #[.slice va C.length vc,.slice ea E0.length ec] 29))
   have hbb:=(cell_of_row _ _ 0 _ _ _ (heap_alloc_new wr (.cells #[.slice va C.length vc,.slice ea E0.length ec] 29))).trans (show _=some (Value.slice va C.length vc) from rfl)
   have HM1:=lh (HM.out.chg HBX.out (by simp))
   have HC5:=lh (HC.out.trans HBX.out (by simp))
   have HR2:=lh (HR1.out.fresh HBX.out)
   clear hc1 hc2
   obtain⟨wb,hwb⟩:∃ wb,wr.heap.size=wb:=⟨_,rfl⟩
   generalize (wr.alloc (.cells #[.slice va C.length vc,.slice ea E0.length ec] 29))=wq at *
   rw[hwb] at hbb ⊢
   clear hwb
   go_loopw [37] (fun c wi=>∃ (j:Nat) (f:Int→Option Int),j≤C.length∧c=.int .i64 j∧IMap wi pb (i*1000000+j) f∧Hid (Plain.Told g p R i j f)∧Chg [pb] wq wi∧Chg [] w3 wi) (fun c _=>C.length - (intOf c).toNat)
   case atStart=>exact⟨0,f,Nat.zero_le _,rfl,HM1.out.mono (by omega),htold,Chg.refl _ _,HC5.out⟩
   case round =>
    obtain⟨j,f,hj,rfl,hm,htold,hch,hc⟩:=hrel
    have HMJ:=lh hm
    have HCJ:=lh hch
    have HC3J:=lh hc
    by_cases hltj:j<C.length
    ·obtain⟨ao',c',e,hsm',-,hcc⟩:=HR2.out
     obtain⟨vb,voff,e2,hcell⟩:=hcc (by intro e;rw[e] at hltj;simp at hltj)
     simp only[Value.slice.injEq] at e
     obtain⟨e3,-,-⟩:=e
     rw[e2] at e3
     subst e3
     have hne:vb≠pb:=fun e=>by have:=HM1.out.cell_ne (hcell j hltj);exact this e
     have cj:=hch.cell (hcell j hltj) (by simpa using hne)
     have IY:=hsm' (C.getD j 0) (Plain.getD_mem hltj)
     have HTJ:=lh (HTN.out j f hltj htold.out)
     obtain⟨y,hy⟩:∃ y,C.getD j 0=y:=⟨_,rfl⟩
     rw[hy] at cj IY HTJ
     have hmx:i*1000000+j<maxLen:=by unfold maxLen;omega
     clear hcell hcc hsm' hy hm hch hc hne
     go_wp2_with (at_mapUpdate;refine wp_store _ rfl _ _ _ rfl HMJ.out hmx rfl IY II rfl rfl ?_;intro w6 m6 g6;have M6:=lh m6;have G6:=lh g6;clear m6 g6)
     go_roundw
     case rel=>exact⟨j+1,_,by omega,by go_num,M6.out.mono (by omega),HTJ,HCJ.out.grown G6.out (fun j hj=>by cases hj;exact Or.inl (by simp)),HC3J.out.grown G6.out (fun j hj=>by cases hj;exact Or.inr HPB.out)⟩
     case measure=>simp[intOf];omega
    have e:j=C.length:=by omega
    subst e
    have HT2:=lh (HTR.out f htold.out)
    clear hm hch hc
    go_wp2
    go_roundw
    case rel=>exact⟨i+1,f,by omega,by go_num,HMJ.out.mono (by omega),HT2,HC3J.out⟩
    case measure=>simp[intOf];omega
  have e:i=R.length:=by omega
  subst e
  clear hm hc
  generalize wr=wz at *
  have HTOLD:Hid (∀ v∈p.v,∃ n,n<R.length∧f v=some (n:Int)∧v∈Plain.comp g p (R.getD n 0)):=lh (fun v hv=>by
   have h:=htold.out
   rw[←HRD.out] at h ⊢
   exact h.all HPO.out hv)
  have HSZZ:=lh (show w3.heap.size≤wz.heap.size from HC.out.size)
  have hmm:=@run_makeMap Tryz.prog
  obtain⟨x0,x1,y0,y1,hsz⟩:=HBXS.out wz (HC31.out.trans HC.out (by simp))
  have x0n:=fun o=>cellNew x0 o
  have x1n:=fun o=>cellNew x1 o
  have y0n:=fun o=>cellNew y0 o
  have y1n:=fun o=>cellNew y1 o
  have HCM:=lh ((Chg.refl [] wz).alloc (.map #[] 0))
  have HOM:=lh (IMap.made wz)
  clear hlt hi hsz
  go_wp2_with fail
  refine (walks_any _ _ _ g p turn _ (by omega) (by omega) hTL HSL.out (HG.out.fresh ((HC3.out.trans HC.out (by simp)).trans HCM.out (by simp))) (HP.out.fresh ((HC3.out.trans HC.out (by simp)).trans HCM.out (by simp))) (HT.out.fresh ((HC3.out.trans HC.out (by simp)).trans HCM.out (by simp)))).mono ?_
  rintro e w5 ⟨ovw,rfl,-,hw2,hc5⟩
  obtain⟨W,xw,hwk,hnw⟩:=hw2 HR.out
  have HWE:=lh (hwk.eq HPE.out)
  have HWK:=lh hwk
  have HNW:=lh hnw
  have HKEYS:=lh (Plain.walks_keys HPE.out hwk)
  obtain⟨wo,wcap,rfl⟩:=hnw.shape
  have hwl:=hwk.len
  have HC5:=lh (HCM.out.trans hc5 (by simp))
  have HOM5:=lh (HOM.out.chg hc5 (by simp))
  obtain⟨qb,hqb⟩:∃ qb,wz.heap.size=qb:=⟨_,rfl⟩
  have HQB:=lh hqb
  rw[HR.out]
  rw[hqb] at HOM5 ⊢
  clear hmm x0 x1 y0 y1 x0n x1n y0n y1n hw2 hwk hnw hc5 hqb
  go_wp2
  go_loopw [56] (fun c wr=>∃ k:Nat,k≤W.length∧c=.int .i64 k∧IMap wr qb k (Plain.ownerOf g p (W.take k))∧Chg [] wz wr∧Chg [qb] w5 wr) (fun c _=>W.length - (intOf c).toNat)
  case atStart=>exact⟨0,Nat.zero_le _,rfl,by rw[List.take_zero];exact HOM5.out,HC5.out,Chg.refl _ _⟩
  case round =>
   obtain⟨k,hk,rfl,hom,hc,hcq⟩:=hrel
   have HCQ:=lh hcq
   have HOMK:=lh hom
   have HCK:=lh hc
   have HC3K:=lh (HC.out.trans hc (by simp))
   by_cases hlt:k<W.length
   ·obtain⟨wg,wc',da,dc,hwe,hf1,hf2,hfr⟩:=nest_face (HNW.out.other hcq (fun j hj cs t r hh=>by simp at hj;subst hj;exact absurd rfl (HOM5.out.ne hh))) rfl hlt
    simp only[Value.slice.injEq] at hwe
    obtain⟨rfl,-,rfl⟩:=hwe
    have hmem:W.getD k (0,[])∈W:=by simp[List.getD,hlt]
    have hcor:=Plain.corner_mem HPO.out HWK.out.faces _ hmem
    obtain⟨n,hnR,hfn,hnc⟩:=HTOLD.out _ hcor
    have hix:Plain.pieceIx g p ((W.getD k (0,[])).corner g)=n:=Plain.pieceIx_eq HPO.out (by rw[HRD.out];exact hnR) (by rw[HRD.out];exact hnc)
    have HSTEP:=lh (Plain.ownerOf_step (g:=g) (p:=p) HKEYS.out hlt)
    have hkey:=HWK.out.faces.key _ hmem
    have hall:∀ d l,(W.getD k (0,[])).2=d :: l→d∈p.darts:=fun d l e=>HWK.out.faces.all.mem_iff.1 (List.mem_flatten.2 ⟨(W.getD k (0,[])).2,List.mem_map.2 ⟨_,List.mem_filter.2 ⟨hmem,by rw[e];rfl⟩,rfl⟩,by rw[e];simp⟩)
    have IC:I64 ((W.getD k (0,[])).corner g):=by have:=HPO.out.vr _ hcor;have:=HEL.out;exact I64.mk (by omega) (by omega)
    have hlow:∀ l,(W.getD k (0,[])).2=l→l=[]→-1 - (W.getD k (0,[])).1=(W.getD k (0,[])).corner g:=fun l e e2=>by
     subst e2
     unfold Plain.Face.corner
     rw[e]
    have hhigh:∀ d l,(W.getD k (0,[])).2=d :: l→(W.getD k (0,[])).corner g=g.tail (W.getD k (0,[])).1:=fun d l e=>by
     unfold Plain.Face.corner
     rw[e]
    rw[hix] at HSTEP
    obtain⟨fc,hfc⟩:∃ fc,W.getD k (0,[])=fc:=⟨_,rfl⟩
    rw[hfc] at hf1 hf2 hfr hcor hfn hnc HSTEP hkey hall IC hlow hhigh
    obtain⟨key,ds⟩:=fc
    dsimp only at hf1 hf2 hfr hkey hall hlow hhigh HSTEP
    obtain⟨kv,hkv⟩:∃ kv,Plain.Face.corner g (key,ds)=kv:=⟨_,rfl⟩
    rw[hkv] at hcor hfn hnc IC hlow hhigh
    have hkI:-4611686018427387904≤key∧key≤4611686018427387904:=by
     cases ds with
     | nil=>have:=hlow _ rfl rfl;have:=HPO.out.vr _ hcor;have:=HEL.out;omega
     | cons d l=>have h1:=hkey d l rfl;have h2:=Plain.dart_small HPE.out (hall d l rfl);omega
    have IK:I64 key:=I64.mk (by omega) (by omega)
    have IN:I64 (n:Int):=I64.mk (by omega) (by omega)
    have HFN:Hid ((f kv).getD 0=(n:Int)):=lh (by rw[hfn];rfl)
    obtain⟨x0,x1,y0,y1,hsz⟩:=HBXS.out wr (HC31.out.trans HC3K.out (by simp))
    obtain⟨dn,hdn⟩:∃ dn,ds.length=dn:=⟨_,rfl⟩
    rw[hdn] at hf2
    have HCORN:=lh (show ∀ wx:World,GrAt wx (.agg #[.int .i64 g.n,.slice eo g.e.length cap]) g→Calls Tryz.prog 125 #[.agg #[.int .i64 g.n,.slice eo g.e.length cap],.agg #[.int .i64 key,.slice da dn dc]] wx fun e w'=>e=.returned (.int .i64 kv)∧Chg [] wx w' by
     intro wx hgx
     cases ds with
     | nil =>
      have hd0:dn=0:=by rw[←hdn];rfl
      subst hd0
      rw[←hlow _ rfl rfl]
      exact corner_low _ g key da dc wx hkI hgx
     | cons d l =>
      have hkd:=hkey d l rfl
      have hdd:=hall d l rfl
      have hcg:=hhigh d l rfl
      subst hkd
      have hds:=Plain.dart_small HPE.out hdd
      obtain⟨kn,hkn⟩:∃ kn:Nat,key=(kn:Int):=⟨key.toNat,by omega⟩
      subst hkn
      rw[hcg]
      refine corner_high _ g kn dn da dc wx (by rw[←hdn];simp) ?_ (by have:=HEL.out;omega) hgx
      rw[Plain.mem_darts] at hdd
      obtain⟨i',hi',e'⟩:=Plain.mem_getD hdd
      have:=Plain.rises_at (Plain.Pt.err_ok HPE.out).2.2.1 hi'
      omega)
    have HLT:=lh hlt
    clear hkey hall hlow hhigh hfc hmem hom hc hcq hcor hfn hnc hfr hkv hdn hsz hix
    go_wp2
    have HBX:=lh ((Chg.refl [] wr).alloc (.cells #[.int .i64 key,.slice da dn dc] 120))
    have b0:=(cell_of_row _ _ 0 _ _ _ (heap_alloc_new wr (.cells #[.int .i64 key,.slice da dn dc] 120))).trans (show _=some (Value.int .i64 key) from rfl)
    have b1:=(cell_of_row _ _ 1 _ _ _ (heap_alloc_new wr (.cells #[.int .i64 key,.slice da dn dc] 120))).trans (show _=some (Value.slice da dn dc) from rfl)
    have x0b:=HBX.out.cell x0 (by simp)
    have x1b:=HBX.out.cell x1 (by simp)
    have HOMB:=lh (HOMK.out.chg HBX.out (by simp))
    have HMB:=lh ((HM.out.chg HCK.out (by simp)).chg HBX.out (by simp))
    have HGB:=lh (HG.out.fresh ((HC3.out.trans HC3K.out (by simp)).trans HBX.out (by simp)))
    clear hf1 hf2 x0 x1 y0 y1
    obtain⟨wb,hwb⟩:∃ wb,wr.heap.size=wb:=⟨_,rfl⟩
    generalize (wr.alloc (.cells #[.int .i64 key,.slice da dn dc] 120))=wq at *
    rw[hwb] at b0 b1 ⊢
    clear hwb
    have hS0:(fun w':World=>w'.cell? ⟨w.heap.size,0,none⟩=some (.int .i64 g.n)∧w'.cell? ⟨w.heap.size,1,none⟩=some (.slice eo g.e.length cap)∧w'.cell? ⟨wb,0,none⟩=some (.int .i64 key)∧w'.cell? ⟨wb,1,none⟩=some (.slice da dn dc)) wq.drew:=⟨x0b,x1b,b0,b1⟩
    refine wp_region_way (fun w':World=>w'.cell? ⟨w.heap.size,0,none⟩=some (.int .i64 g.n)∧w'.cell? ⟨w.heap.size,1,none⟩=some (.slice eo g.e.length cap)∧w'.cell? ⟨wb,0,none⟩=some (.int .i64 key)∧w'.cell? ⟨wb,1,none⟩=some (.slice da dn dc)) [0,1,2,3,4,5] (Way.line [0,1,2,3,4,5,6,7,8] .done) (by kernel_rfl) (by kernel_rfl) ?_
    simp only[Way.line]
    repeat
     first
      | (refine along_off rfl (by rfl) (by rfl) (fun _ _ _ h=>h) hS0 ?_;simp only[Act.put,Z1,Z2,Z3,Z4,Z5,Z6])
      | (refine along_read (v:=?_) rfl (by rfl) (by rfl) (fun _ _ _ h=>h) hS0 (fun w' hS'=>?_) ?_;rotate_left;(focus ((try dsimp only at hS');go_simp;try with_reducible rfl));simp only[Act.put,Z1,Z2,Z3,Z4,Z5,Z6])
      | (refine along_skip rfl (by rfl) (by rfl) hS0 ?_;simp only[Act.put,Z1,Z2,Z3,Z4,Z5,Z6])
    have HGD:=lh (HGB.out.fresh (Chg.refl [] wq).drew)
    refine along_op rfl (by rfl) (by rfl) (fun K hK=>?_)
    simp only[List.getElem_toArray,List.getElem_cons_zero,List.getElem_cons_succ]
    refine wp_calls rfl (enters_of Tryz.func125 (by kernel_rfl) rfl) (args:=#[.agg #[.int .i64 g.n,.slice eo g.e.length cap],.agg #[.int .i64 key,.slice da dn dc]]) rfl ((HCORN.out _ HGD.out).mono ?_)
    rintro e w8 ⟨rfl,hc8⟩
    refine⟨_,rfl,?_⟩
    have HC8:=lh (((Chg.refl [] wq).drew).trans hc8 (by simp))
    have hS8:(fun w':World=>w'.cell? ⟨w.heap.size,0,none⟩=some (.int .i64 g.n)∧w'.cell? ⟨w.heap.size,1,none⟩=some (.slice eo g.e.length cap)∧w'.cell? ⟨wb,0,none⟩=some (.int .i64 key)∧w'.cell? ⟨wb,1,none⟩=some (.slice da dn dc)) w8:=⟨HC8.out.cell x0b (by simp),HC8.out.cell x1b (by simp),HC8.out.cell b0 (by simp),HC8.out.cell b1 (by simp)⟩
    refine hK.out _ _ (fun _=>hS8) ?_
    clear hK K hS0 b0 b1 x0b x1b hc8
    try simp only[Act.put,List.setIfInBounds_toArray,List.set_cons_zero,List.set_cons_succ]
    refine along_op rfl (by rfl) (by rfl) (fun K hK=>?_)
    simp only[List.getElem_toArray,List.getElem_cons_zero,List.getElem_cons_succ]
    refine wpo_look _ _ rfl (HMB.out.chg HC8.out (by simp)) rfl IC rfl HFN ?_
    refine hK.out _ _ (fun _=>hS8) ?_
    clear hK K hS8
    try simp only[Act.put,List.setIfInBounds_toArray,List.set_cons_zero,List.set_cons_succ]
    refine along_op rfl (by rfl) (by rfl) (fun K hK=>?_)
    simp only[List.getElem_toArray,List.getElem_cons_zero,List.getElem_cons_succ]
    refine wpo_store _ _ _ rfl (HOMB.out.chg HC8.out (by simp)) (by unfold maxLen;omega) rfl IK IN rfl rfl fun w9 m9 g9=>?_
    have M9:=lh m9
    have HC9:=lh ((HBX.out.trans HC8.out (by simp)).mono (own':=[qb]) (by simp) |>.grown g9 (fun j hj=>by cases hj;exact Or.inl (by simp)))
    refine hK.out _ _ (fun h=>absurd h (Bool.eq_false_iff.1 (by kernel_rfl))) ?_
    clear hK K m9 g9
    try simp only[Act.put]
    refine along_done ?_
    go_wp2
    go_roundw
    case rel=>exact⟨k+1,by have:=HLT.out;omega,by go_num,by rw[←HSTEP.out];exact M9.out,HCK.out.trans HC9.out (fun j hj=>Or.inr (by have:=HQB.out;simp at hj;omega)),HCQ.out.trans HC9.out (fun j hj=>Or.inl hj)⟩
    case measure=>have:=HLT.out;simp[intOf];omega
   have e:k=W.length:=by omega
   subst e
   rw[List.take_length] at hom
   have HOMF:=lh hom
   have HCF:=lh (HC3.out.trans HC3K.out (by simp))
   clear hom hc hcq HOMK
   go_wp2
   refine bodyPost_ret (v:=.tuple #[.map (some qb),.int .i64 R.length]) (by simp[results,Tryz.results66,go_sem]) rfl ?_
   rw[HRD.out]
   exact⟨qb,_,rfl,by rw[←HWE.out];exact HOMF.out,HCF.out,by have:=HQB.out;have:=HSZZ.out;have:=HSZ3.out;omega,HWE.out ▸ HWK.out⟩
theorem St.Ok.idx_lt {s:St} {x:Int} (h:x∈s.all):s.all.idxOf x<s.all.length:=List.idxOf_lt_length_iff.2 h
theorem St.Ok.hd_lt {s:St} (h:s.Ok) {x:Int} (hx:x∈s.all):s.hd (s.all.idxOf x)<s.all.length:=by
 have:=h.le (s.all.idxOf x) (by rw[←h.len];exact St.Ok.idx_lt hx)
 have:=St.Ok.idx_lt hx
 omega
theorem St.put_put_mem (s:St) (x y:Int):x∈((s.put x).put y).all∧y∈((s.put x).put y).all:=⟨St.mem_put_of y (s.mem_put x),St.mem_put _ _⟩
theorem St.join_in {s:St} {x y:Int} (hx:x∈s.all) (hy:y∈s.all):s.join x y=⟨s.all,relabel s.grp (s.hd (s.all.idxOf x)) (s.hd (s.all.idxOf y))⟩∧s.joins x y=(s.hd (s.all.idxOf x) != s.hd (s.all.idxOf y)):=by
 have e:(s.put x).put y=s:=by rw[St.put_in hx,St.put_in hy]
 exact⟨by unfold St.join;rw[e],by unfold St.joins;rw[e]⟩
theorem St.join_count {s:St} (hs:s.Ok) {x y:Int} (hx:x∈s.all) (hy:y∈s.all):s.count=(s.join x y).count+if s.joins x y then 1 else 0:=by
 obtain⟨e1,e2⟩:=St.join_in hx hy
 rw[e1,e2]
 have h1:=hs.le (s.all.idxOf x) (by rw[←hs.len];exact St.Ok.idx_lt hx)
 have h2:=hs.le (s.all.idxOf y) (by rw[←hs.len];exact St.Ok.idx_lt hy)
 have k1:=St.Ok.idx_lt hx
 have k2:=St.Ok.idx_lt hy
 rw[hs.len] at k1 k2
 have o1:=hs.own _ k1
 have o2:=hs.own _ k2
 generalize s.hd (s.all.idxOf x)=i at *
 generalize s.hd (s.all.idxOf y)=j at *
 by_cases e:i=j
 ·subst e
  rw[relabel_self]
  simp
 have:=St.count_relabel (all:=s.all) (grp:=s.grp) (by omega:i<s.grp.length) (by omega:j<s.grp.length) o1 o2 e
 have e3:(i != j)=true:=by rw[bne_iff_ne];exact e
 rw[e3,if_pos rfl]
 exact this
theorem St.Ok.up {s:St} (h:s.Ok):Up s.grp s.grp:=⟨rfl,fun i hi=>⟨h.le i hi,by
 have:=h.own i hi
 simp only[St.hd] at this
 split
 ·assumption
 exact this.symm⟩⟩
theorem St.ok_nil:St.Ok ⟨[],[]⟩:=⟨rfl,List.nodup_nil,by simp,by simp⟩
theorem St.Ok.put {s:St} (h:s.Ok) (x:Int):(s.put x).Ok:=by
 by_cases hx:x∈s.all
 ·rwa[St.put_in hx]
 rw[St.put_new hx]
 have hu:=h.up.put
 have hl:=h.len
 refine⟨by simp[hl],by rw[List.nodup_append];exact⟨h.nodup,by simp,by intro a ha b hb;simp at hb;subst hb;rintro rfl;exact hx ha⟩,fun i hi=>?_,fun i hi=>?_⟩
 ·have:=hu.le i (by simpa using hi);simpa[St.hd,hl] using this.1
 have:=hu.own (i:=i) (by simpa using hi);simpa[St.hd,hl] using this
theorem St.Ok.join {s:St} (h:s.Ok) (x y:Int):(s.join x y).Ok:=by
 have ht:=(h.put x).put y
 have hm:=s.put_put_mem x y
 show St.Ok ⟨((s.put x).put y).all,relabel ((s.put x).put y).grp (((s.put x).put y).hd (((s.put x).put y).all.idxOf x)) (((s.put x).put y).hd (((s.put x).put y).all.idxOf y))⟩
 generalize (s.put x).put y=t at *
 have hi:=ht.hd_lt hm.1
 have hj:=ht.hd_lt hm.2
 have ei:=ht.own (t.all.idxOf x) (by rw[←ht.len];exact List.idxOf_lt_length_iff.2 hm.1)
 have ej:=ht.own (t.all.idxOf y) (by rw[←ht.len];exact List.idxOf_lt_length_iff.2 hm.2)
 generalize t.hd (t.all.idxOf x)=a at *
 generalize t.hd (t.all.idxOf y)=b at *
 by_cases hab:a=b
 ·subst hab
  rw[relabel_self]
  exact ht
 have hu:=ht.up.join (i:=a) (j:=b) (by rw[←ht.len];exact hi) (by rw[←ht.len];exact hj) ei ej hab
 have hl:(relabel t.grp a b).length=t.grp.length:=by simp[relabel]
 refine⟨by simp only[hl,ht.len],ht.nodup,fun i hi=>?_,fun i hi=>?_⟩
 ·exact (hu.le i (by simp only[hl] at hi;simpa using hi)).1
 exact hu.own (by simp only[hl] at hi;simpa using hi)
end Go.Proofs.YtkacjmoamgjfpaaGreat
namespace Go.Proofs.YtkacjmoamgjfpaaGreat
namespace Plain
def keyStep (ow:Int→Option Int) (l:List Int) (k:Nat) (st:St × List Int):Option (St × List Int) :=
 match ow (l.getD k 0) with
 | none=>none
 | some a =>
  if l.getD k 0∈st.2∨(0<k∧l.getD k 0≤l.getD (k - 1) 0) then none
  else if 0<k then (if st.1.joins ((ow (l.getD 0 0)).getD 0) a then some (st.1.join ((ow (l.getD 0 0)).getD 0) a,st.2++[l.getD k 0]) else none)
  else some (st.1,st.2++[l.getD k 0])
def listRun (ow:Int→Option Int) (l:List Int) (st:St × List Int):Nat→Option (St × List Int)
 | 0=>some st
 | k+1=>(listRun ow l st k).bind (keyStep ow l k)
def listBad (same:List (List Int)) (i:Nat):Prop:=(same.getD i []).length<2∨(0<i∧(same.getD i []).getD 0 0≤(same.getD (i - 1) []).getD 0 0)
instance (same:List (List Int)) (i:Nat):Decidable (listBad same i):=by unfold listBad;infer_instance
def sameRun (ow:Int→Option Int) (same:List (List Int)) (st:St × List Int):Nat→Option (St × List Int)
 | 0=>some st
 | i+1=>(sameRun ow same st i).bind fun c=>if listBad same i then none else listRun ow (same.getD i []) c (same.getD i []).length
def upTo (n:Nat):List Int:=(List.range n).map fun (i:Nat)=>(i:Int)
noncomputable def planErr (g:Gr) (p:Pt) (turn same:List (List Int)):Int :=
 if flatErr g p turn≠0 then flatErr g p turn
 else match sameRun (ownerOf g p (walksOf g p turn)) same (St.new (upTo (roots g p).length),[]) same.length with
  | none=>7
  | some c=>if 1<c.1.count then 7 else 0
theorem listRun_none {ow:Int→Option Int} {l:List Int} {st:St × List Int} {k:Nat} (h:listRun ow l st k=none):∀ n,k≤n→listRun ow l st n=none
 | 0,hn=>by rw[show k=0 by omega] at h;exact h
 | n+1,hn=>by
  by_cases e:k=n+1
  ·rw[←e];exact h
  show (listRun ow l st n).bind _=none
  rw[listRun_none h n (by omega)];rfl
theorem sameRun_none {ow:Int→Option Int} {same:List (List Int)} {st:St × List Int} {k:Nat} (h:sameRun ow same st k=none):∀ n,k≤n→sameRun ow same st n=none
 | 0,hn=>by rw[show k=0 by omega] at h;exact h
 | n+1,hn=>by
  by_cases e:k=n+1
  ·rw[←e];exact h
  show (sameRun ow same st n).bind _=none
  rw[sameRun_none h n (by omega)];rfl
theorem listRun_stop {ow:Int→Option Int} {l:List Int} {st c:St × List Int} {k:Nat} (hk:k<l.length) (h:listRun ow l st k=some c) (hs:keyStep ow l k c=none):listRun ow l st l.length=none :=
 listRun_none (k:=k+1) (show (listRun ow l st k).bind _=none by rw[h];exact hs) _ hk
theorem listRun_next {ow:Int→Option Int} {l:List Int} {st c d:St × List Int} {k:Nat} (h:listRun ow l st k=some c) (hs:keyStep ow l k c=some d):listRun ow l st (k+1)=some d :=
 show (listRun ow l st k).bind _=some d by rw[h];exact hs
theorem sameRun_bad {ow:Int→Option Int} {same:List (List Int)} {st c:St × List Int} {i:Nat} (hi:i<same.length) (h:sameRun ow same st i=some c) (hb:listBad same i):sameRun ow same st same.length=none :=
 sameRun_none (k:=i+1) (show (sameRun ow same st i).bind _=none by rw[h];exact if_pos hb) _ hi
theorem sameRun_stop {ow:Int→Option Int} {same:List (List Int)} {st c:St × List Int} {i:Nat} (hi:i<same.length) (h:sameRun ow same st i=some c) (hb:¬ listBad same i) (hs:listRun ow (same.getD i []) c (same.getD i []).length=none):sameRun ow same st same.length=none :=
 sameRun_none (k:=i+1) (show (sameRun ow same st i).bind _=none by rw[h];show (if _ then _ else _)=none;rw[if_neg hb];exact hs) _ hi
theorem sameRun_next {ow:Int→Option Int} {same:List (List Int)} {st c d:St × List Int} {i:Nat} (h:sameRun ow same st i=some c) (hb:¬ listBad same i) (hs:listRun ow (same.getD i []) c (same.getD i []).length=some d):sameRun ow same st (i+1)=some d :=
 show (sameRun ow same st i).bind _=some d by rw[h];show (if _ then _ else _)=some d;rw[if_neg hb];exact hs
theorem keyStep_none {ow:Int→Option Int} {l:List Int} {k:Nat} {st:St × List Int} (h:ow (l.getD k 0)=none):keyStep ow l k st=none:=by unfold keyStep;rw[h]
theorem keyStep_bad {ow:Int→Option Int} {l:List Int} {k:Nat} {st:St × List Int} (h:l.getD k 0∈st.2∨(0<k∧l.getD k 0≤l.getD (k - 1) 0)):keyStep ow l k st=none:=by
 unfold keyStep
 cases ow (l.getD k 0) with
 | none=>rfl
 | some a=>exact if_pos h
theorem keyStep_first {ow:Int→Option Int} {l:List Int} {st:St × List Int} {a:Int} (h:ow (l.getD 0 0)=some a) (hm:l.getD 0 0 ∉ st.2):keyStep ow l 0 st=some (st.1,st.2++[l.getD 0 0]):=by
 unfold keyStep;rw[h];dsimp only;rw[if_neg (by rintro (q | ⟨q,-⟩);exact hm q;omega),if_neg (by omega)]
theorem keyStep_join {ow:Int→Option Int} {l:List Int} {k:Nat} {st:St × List Int} {a b:Int} (hk:0<k) (h:ow (l.getD k 0)=some a) (hm:l.getD k 0 ∉ st.2) (hr:l.getD (k - 1) 0<l.getD k 0) (hb:(ow (l.getD 0 0)).getD 0=b) (hj:st.1.joins b a=true):keyStep ow l k st=some (st.1.join b a,st.2++[l.getD k 0]):=by
 unfold keyStep;rw[h];dsimp only;rw[if_neg (by rintro (q | ⟨-,q⟩);exact hm q;omega),if_pos hk,hb,if_pos hj]
theorem keyStep_not {ow:Int→Option Int} {l:List Int} {k:Nat} {st:St × List Int} {a b:Int} (hk:0<k) (h:ow (l.getD k 0)=some a) (hb:(ow (l.getD 0 0)).getD 0=b) (hj:st.1.joins b a=false):keyStep ow l k st=none:=by
 unfold keyStep;rw[h];dsimp only
 split
 ·rfl
 rw[hb,hj];rfl
theorem keyStep_some {ow:Int→Option Int} {l:List Int} {k:Nat} {st d:St × List Int} (h:keyStep ow l k st=some d) :
  ∃ a,ow (l.getD k 0)=some a∧l.getD k 0 ∉ st.2∧(0<k→l.getD (k - 1) 0<l.getD k 0)∧d.2=st.2++[l.getD k 0]∧((k=0∧d.1=st.1)∨(0<k∧st.1.joins ((ow (l.getD 0 0)).getD 0) a=true∧d.1=st.1.join ((ow (l.getD 0 0)).getD 0) a)):=by
 unfold keyStep at h
 cases ha:ow (l.getD k 0) with
 | none=>rw[ha] at h;cases h
 | some a =>
  rw[ha] at h
  dsimp only at h
  split at h
  ·cases h
  rename_i q
  have q1:l.getD k 0 ∉ st.2:=fun x=>q (Or.inl x)
  have q2:0<k→l.getD (k - 1) 0<l.getD k 0:=fun x=>by
   by_cases y:l.getD k 0≤l.getD (k - 1) 0
   ·exact absurd (Or.inr ⟨x,y⟩) q
   omega
  split at h
  ·rename_i hk
   split at h
   ·rename_i hj
    cases h
    exact⟨a,rfl,q1,q2,rfl,Or.inr ⟨hk,hj,rfl⟩⟩
   cases h
  rename_i hk
  cases h
  exact⟨a,rfl,q1,q2,rfl,Or.inl ⟨by omega,rfl⟩⟩
structure PlanOk (ow:Int→Option Int) (n:Nat) (t:Nat) (c:St × List Int):Prop where
 ok:c.1.Ok
 all:c.1.all=upTo n
 num:c.1.count+c.2.length=n+t
 nodup:c.2.Nodup
 has:∀ k∈c.2,(ow k).isSome=true
theorem mem_upTo {n:Nat} {a:Int}:a∈upTo n↔0≤a∧a<n:=by
 unfold upTo
 rw[List.mem_map]
 constructor
 ·rintro ⟨i,hi,rfl⟩;have:=List.mem_range.1 hi;omega
 intro h;exact⟨a.toNat,List.mem_range.2 (by omega),by omega⟩
theorem St.new_upTo (n:Nat):St.new (upTo n)=⟨upTo n,List.range n⟩:=by
 induction n with
 | zero=>rfl
 | succ n ih =>
  have e:upTo (n+1)=upTo n++[(n:Int)]:=by unfold upTo;rw[List.range_succ,List.map_append];rfl
  have hn:(n:Int) ∉ upTo n:=fun h=>by have:=mem_upTo.1 h;omega
  unfold St.new at ih ⊢
  rw[e,List.foldl_append,ih]
  show St.put _ _=_
  rw[St.put_new hn]
  show St.mk _ _=_
  congr 1
  rw[List.range_succ]
  congr 1
  simp[upTo]
theorem PlanOk.start (ow:Int→Option Int) (n:Nat):PlanOk ow n 0 (St.new (upTo n),[]):=by
 rw[St.new_upTo]
 refine⟨⟨by simp[upTo],?_,fun i hi=>?_,fun i hi=>?_⟩,rfl,?_,List.nodup_nil,by simp⟩
 ·show (upTo n).Nodup
  unfold upTo
  exact List.Pairwise.map _ (fun a b hab=>by omega) (List.nodup_range (n:=n))
 ·have hi:i<n:=by simpa using hi
  simp[St.hd,List.getD,hi]
 ·have hi:i<n:=by simpa using hi
  simp[St.hd,List.getD,hi]
 show List.countP _ _+0=_
 rw[List.length_range,List.countP_eq_length.2 ?_]
 ·simp
 intro i hi
 have hi:=List.mem_range.1 hi
 simp[List.getD,hi]
theorem keyStep_ok {ow:Int→Option Int} {n t k:Nat} {l:List Int} {c d:St × List Int} (hb:∀ y a,ow y=some a→0≤a∧a<n) (h0:0<k→(ow (l.getD 0 0)).isSome=true) (hc:PlanOk ow n t c) (h:keyStep ow l k c=some d):PlanOk ow n (if k=0 then t+1 else t) d:=by
 obtain⟨a,ha,hm,-,e2,e1⟩:=keyStep_some h
 have hnd:d.2.Nodup:=by
  rw[e2,List.nodup_append]
  exact⟨hc.nodup,by simp,fun x hx y hy=>by rw[List.mem_singleton.1 hy];intro q;exact hm (q ▸ hx)⟩
 have hhas:∀ y∈d.2,(ow y).isSome=true:=by
  intro y hy
  rw[e2,List.mem_append] at hy
  rcases hy with hy | hy
  ·exact hc.has y hy
  rw[List.mem_singleton.1 hy,ha];rfl
 have hl:d.2.length=c.2.length+1:=by rw[e2];simp
 have hnum:=hc.num
 rcases e1 with ⟨hk,e1⟩ | ⟨hk,hj,e1⟩
 ·rw[if_pos hk]
  exact⟨by rw[e1];exact hc.ok,by rw[e1];exact hc.all,by rw[e1,hl];omega,hnd,hhas⟩
 rw[if_neg (by omega)]
 obtain⟨b,hob⟩:=Option.isSome_iff_exists.1 (h0 hk)
 rw[hob] at hj e1
 have ma:a∈c.1.all:=by rw[hc.all,mem_upTo];exact hb _ _ ha
 have mb:b∈c.1.all:=by rw[hc.all,mem_upTo];exact hb _ _ hob
 have hcnt:=St.join_count hc.ok mb ma
 have hj:c.1.joins b a=true:=hj
 rw[if_pos hj] at hcnt
 have e1:d.1=c.1.join b a:=e1
 refine⟨by rw[e1];exact hc.ok.join _ _,by rw[e1,(St.join_in mb ma).1];exact hc.all,by rw[e1,hl];omega,hnd,hhas⟩
theorem listRun_ok {ow:Int→Option Int} {n t:Nat} {l:List Int} {c:St × List Int} (hb:∀ y a,ow y=some a→0≤a∧a<n) (hc:PlanOk ow n t c):∀ k d,listRun ow l c k=some d →
  PlanOk ow n (if k=0 then t else t+1) d∧d.2=c.2++(List.range k).map (fun i=>l.getD i 0)∧(0<k→(ow (l.getD 0 0)).isSome=true)∧(∀ i,i+1<k→l.getD i 0<l.getD (i+1) 0)
 | 0,d,h=>by
  cases h
  exact⟨hc,by simp,by omega,by omega⟩
 | k+1,d,h=>by
  have h:(listRun ow l c k).bind (keyStep ow l k)=some d:=h
  cases hm:listRun ow l c k with
  | none=>rw[hm] at h;cases h
  | some m =>
   rw[hm] at h
   have h:keyStep ow l k m=some d:=h
   obtain⟨i1,i2,i3,i4⟩:=listRun_ok hb hc k m hm
   have:=keyStep_ok hb i3 i1 h
   obtain⟨a,ha,-,hr,e2,-⟩:=keyStep_some h
   refine⟨?_,?_,?_,?_⟩
   ·rw[if_neg (by omega)]
    by_cases e:k=0
    ·rw[if_pos e,if_pos e] at this;exact this
    rw[if_neg e,if_neg e] at this;exact this
   ·rw[e2,i2,List.range_succ,List.map_append,List.append_assoc];rfl
   ·intro _
    by_cases e:k=0
    ·rw[←e,ha];rfl
    exact i3 (by omega)
   intro i hi
   by_cases e:i+1=k
   ·subst e;exact hr (by omega)
   exact i4 i (by omega)
theorem getD_get (l:List Int) {i:Nat} (h:i<l.length):l.getD i 0=l[i]:=by simp[List.getD,h]
theorem getD_all (l:List Int):(List.range l.length).map (fun i=>l.getD i 0)=l:=by
 apply List.ext_getElem
 ·simp
 intro i h1 h2
 simp[List.getD,h2]
theorem sameRun_ok {ow:Int→Option Int} {n:Nat} {same:List (List Int)} (hb:∀ y a,ow y=some a→0≤a∧a<n):∀ i d,i≤same.length→sameRun ow same (St.new (upTo n),[]) i=some d →
  PlanOk ow n i d∧d.2=(same.take i).flatten∧(∀ j,j<i→¬ listBad same j∧(same.getD j []).Pairwise (·<·))
 | 0,d,_,h=>by
  cases h
  exact⟨PlanOk.start ow n,by simp,by omega⟩
 | i+1,d,hi,h=>by
  have h:(sameRun ow same (St.new (upTo n),[]) i).bind _=some d:=h
  cases hm:sameRun ow same (St.new (upTo n),[]) i with
  | none=>rw[hm] at h;cases h
  | some m =>
   rw[hm] at h
   have h:(if listBad same i then none else listRun ow (same.getD i []) m (same.getD i []).length)=some d:=h
   split at h
   ·cases h
   rename_i hbad
   obtain⟨i1,i2,i3⟩:=sameRun_ok hb i m (by omega) hm
   obtain⟨j1,j2,-,j4⟩:=listRun_ok hb i1 _ d h
   have hl:2≤(same.getD i []).length:=by unfold listBad at hbad;omega
   rw[if_neg (by omega)] at j1
   refine⟨j1,?_,?_⟩
   ·rw[j2,i2,getD_all,List.take_succ_eq_append_getElem (by omega),List.flatten_append]
    have:same.getD i []=same[i]:=by simp[List.getD,show i<same.length by omega]
    rw[this];simp
   intro j hj
   by_cases e:j=i
   ·subst e
    refine⟨hbad,?_⟩
    rw[List.pairwise_iff_getElem]
    intro a b ha hb' hab
    have mono:∀ y x,x<y→y<(same.getD j []).length→(same.getD j []).getD x 0<(same.getD j []).getD y 0:=by
     intro y
     induction y with
     | zero=>intro x hx;omega
     | succ y ih =>
      intro x hx hy
      have h1:=j4 y (by omega)
      by_cases e:x=y
      ·subst e;exact h1
      have:=ih x (by omega) (by omega);omega
    have:=mono b a hab hb'
    rw[getD_get _ ha,getD_get _ hb'] at this
    exact this
   exact i3 j (by omega)
theorem ownerOf_lt {g:Gr} {p:Pt} {turn:List (List Int)} {W:List Face} (hp:PartOk g p) (hW:WalksOk g p turn W) {y a:Int} (h:ownerOf g p W y=some a):0≤a∧a<(roots g p).length:=by
 unfold ownerOf at h
 obtain⟨f,hf,rfl⟩:=Option.map_eq_some_iff.1 h
 have hm:=List.mem_of_find?_eq_some hf
 have hc:=corner_mem hp hW.faces f hm
 obtain⟨r,hr,hcr⟩:=root_of (g:=g) (fun v hv=>(hp.vr v hv).1) hc
 obtain⟨i,hi,rfl⟩:=mem_getD hr
 rw[pieceIx_eq hp hi (mem_comp.2 ⟨hc,hcr⟩)]
 omega
theorem ownerOf_some {g:Gr} {p:Pt} {W:List Face} {y:Int} (h:(ownerOf g p W y).isSome=true):y∈W.map (·.1):=by
 unfold ownerOf at h
 rw[Option.isSome_map] at h
 obtain⟨f,hf⟩:=Option.isSome_iff_exists.1 h
 have h1:=List.mem_of_find?_eq_some hf
 have h2:=List.find?_some hf
 exact List.mem_map.2 ⟨f,h1,of_decide_eq_true h2⟩
theorem planErr_flat {g:Gr} {p:Pt} {turn same:List (List Int)} (h:flatErr g p turn≠0):planErr g p turn same=flatErr g p turn:=if_pos h
theorem planErr_run {g:Gr} {p:Pt} {turn same:List (List Int)} (h:flatErr g p turn=0):planErr g p turn same=match sameRun (ownerOf g p (walksOf g p turn)) same (St.new (upTo (roots g p).length),[]) same.length with
  | none=>7
  | some c=>if 1<c.1.count then 7 else 0:=if_neg (by simp[h])
theorem planErr_zero {g:Gr} {p:Pt} {turn same:List (List Int)} (h:planErr g p turn same=0):flatErr g p turn=0∧∃ c,sameRun (ownerOf g p (walksOf g p turn)) same (St.new (upTo (roots g p).length),[]) same.length=some c∧c.1.count≤1:=by
 by_cases hf:flatErr g p turn=0
 ·rw[planErr_run hf] at h
  refine⟨hf,?_⟩
  split at h
  ·cases h
  rename_i c hc
  refine⟨c,hc,?_⟩
  split at h
  ·cases h
  omega
 rw[planErr_flat hf] at h;exact absurd h hf
end Plain
end Go.Proofs.YtkacjmoamgjfpaaGreat
