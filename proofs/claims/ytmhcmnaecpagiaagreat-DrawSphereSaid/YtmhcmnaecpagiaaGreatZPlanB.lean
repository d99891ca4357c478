/- A plan as it is built in memory: a variable of two lists of lists of the call's own. No condition beyond what each law says. -/
import Derived.Test.YtmhcmnaecpagiaaGreatZRefW
namespace Go.Proofs.YtmhcmnaecpagiaaGreat
open Go.RowKit Go.Maps
theorem clone_any (v:Value) (l:List Int) (w:World) (hl:l.length≤1000000000) (h:IntsAt w v l) :
  Calls Tryz.prog 121 #[v] w fun e w'=>∃ v',e=.returned v'∧RowAt w' w.heap.size v' l∧Chg [] w w':=by
 obtain⟨ao,cap,rfl,hsm,hm,hc⟩:=h;cases l with
 | nil =>
  cases ao with
  | none =>
   refine (Tryz.slices_Clone_int_nil 0 cap w).mono ?_;rintro e w' ⟨rfl,rfl⟩;exact⟨_,rfl,rowNil' _ _,Chg.refl _ _⟩
  | some ad =>
   refine (Tryz.slices_Clone_int_zero ad cap w).mono ?_;rintro e w' ⟨v',rfl,h1,-,h3⟩;exact⟨_,rfl,⟨h1,by simp,by simp⟩,Chg.of_below h3 (Nat.le_refl _)⟩
 | cons y r =>
  obtain⟨b,off,rfl,hc2⟩:=hc (by simp);refine (Tryz.slices_Clone_int b off (y :: r).length cap (y :: r) w (Nat.le_refl _) (by omega) hc2).mono ?_;rintro e w' ⟨v',rfl,h1,-,h3⟩;rw[List.take_length] at h1;exact⟨_,rfl,⟨h1,hsm,by omega⟩,Chg.of_below h3 (Nat.le_refl _)⟩
structure PlanVar (w:World) (pb B T:Nat) (t s:List (List Int)):Prop where
 ex:∃ o1 v1 o2 v2,w.heap[pb]?=some (.cells #[o1,o2] 42 (0,0))∧RowsOwn w B o1 v1 t∧RowsOwn w B o2 v2 s∧(o1.ownBlock=none∨o1.ownBlock≠o2.ownBlock) ∧
  (∀ k b,k<v1.length→(v1.getD k undef).ownBlock=some b→b<T)∧(∀ k b,k<v2.length→(v2.getD k undef).ownBlock=some b→b<T)
 small:∀ l∈t++s,(∀ x∈l,I64 x)∧l.length<4294967296
theorem row_below {w:World} {B:Nat} {ov:Value} {vs:List Value} {ll:List (List Int)} (h:RowsOwn w B ov vs ll):∀ k b,k<vs.length→(vs.getD k undef).ownBlock=some b→b<w.heap.size:=fun k _b hk hb=>owns_lt (h.rows k hk) hb
theorem run_row {w0 w:World} {B T:Nat} {ov v:Value} {vs:List Value} {ll:List (List Int)} {l:List Int} (h:RowsOwn w0 B ov vs ll) (hB:B≤w0.heap.size) (hv:RowAt w0 T v l) (hBT:B≤T) (hX:∀ k b,k<vs.length→(vs.getD k undef).ownBlock=some b→b<T) (hn:vs.length<68719476736)
  (hw:w=w0.alloc (.cells #[v] 25)∨w=(w0.alloc (.cells #[v] 25)).drew) (ty:TypeId) :
  ∃ g cap w',(Builtin.append_ #[30,30] ty #[ov,.slice (some ⟨w0.heap.size,0,none⟩) 1 1]).run Tryz.prog w=.ok (.slice (some ⟨g,0,none⟩) (vs.length+1) cap) w' ∧
   RowsOwn w' B (.slice (some ⟨g,0,none⟩) (vs.length+1) cap) (vs++[v]) (ll++[l])∧Chg ov.ownBlock.toList w0 w'∧(ov.ownBlock=some g∨w0.heap.size≤g):=by
 obtain⟨va,vc,rfl⟩:=hv.shape;obtain⟨g,cap,w',hr,r2,r3,r4⟩:=run_app elemRow h.out hB (cs:=#[.slice va l.length vc]) rfl (oneSlice _ _ _) hn hw ty;exact⟨g,cap,w',hr,h.add (owns_base hv.1 hBT) (fun k b hk hb e=>by
  have h1:=hX k b hk hb;have h2:=(hv.low b (by rw[e];simp)).1;omega) r2 r3,r3,r4⟩
theorem wp_apprun {o:Oper} {a:Act} {K:Act→World→Prop} {Q:Exit→Act→World→Prop} {w w':World} (s x:Operand) (t:TypeId) (ho:o.op=.call { callee:=.builtin .append,args:=#[s,x],argTypes:=#[t,t] }) {v u r:Value} (hs:a.eval s=v) (hx:a.eval x=u)
  (hr:(Builtin.append_ #[t,t] o.type #[v,u]).run Tryz.prog w=.ok r w') (hK:K (a.put o.dst r) w'):o.wp Tryz.prog a w K Q:=by
 unfold Oper.wp execOp;simp only[ho,resolve,invoke,builtin,Sem.run_bind,Sem.run_pure,Result.andThen_ok,List.map_toArray,List.map_cons,List.map_nil,hs,hx,hr];exact hK
namespace Plain
theorem map_take_snoc {f:List Int→List Int} {L:List (List Int)} {k:Nat} (hk:k<L.length):(L.take (k+1)).map f=(L.take k).map f++[f (L.getD k [])]:=by
 rw[List.take_succ_eq_append_getElem hk,List.map_append];simp[List.getD,hk]
end Plain
noncomputable def rpcs (g:Plain.Gr) (p:Plain.Pt) (R:List Int):List Cell:=pcs (Plain.comp g p) (fun r=>(p.sub g (Plain.comp g p r)).e) R
theorem rpcs_snoc (g:Plain.Gr) (p:Plain.Pt) (R:List Int) (r:Int):rpcs g p (R++[r])=rpcs g p R++[.row (Plain.comp g p r),.row (p.sub g (Plain.comp g p r)).e]:=by simp[rpcs,pcs]
theorem sub_comp {g:Plain.Gr} {p:Plain.Pt} {v:Int} {M:List Int} (hp:Plain.PartOk g p) (hM:∀ u,u∈M↔Plain.Come g p (-1) v u):(p.sub g M).v=Plain.comp g p v∧(p.sub g M).e=(p.sub g (Plain.comp g p v)).e:=by
 have e:∀ u∈p.v,decide (u∈M)=decide (u∈Plain.comp g p v):=fun u hu=>by
  have:u∈M↔u∈Plain.comp g p v:=by rw[hM u,Plain.mem_comp];exact⟨fun h=>⟨hu,h⟩,fun h=>h.2⟩
  simp only[this]
 refine⟨?_,List.filter_congr fun x hx=>?_⟩
 ·show p.v.filter (fun u=>decide (u∈M))=Plain.comp g p v
  unfold Plain.comp;refine List.filter_congr fun u hu=>?_;exact decide_eq_decide.2 (hM u)
 have:=hp.ends x hx;rw[e _ this.1,e _ this.2]
set_option maxRecDepth 100000 in
set_option maxHeartbeats 4000000 in
theorem refPiecesN_any (vg vp:Value) (g:Plain.Gr) (p:Plain.Pt) (w:World) (hV:p.v.length≤1000) (hE:p.e.length≤1000000) (hr:p.err g=0) (hg:GrAt w vg g) (hp:PtAt w vp p) :
  Calls Tryz.prog 26 #[vg,vp] w fun e w'=>∃ ov xs,e=.returned ov∧Nest w' w.heap.size 27 2 ov (Plain.roots g p).length xs (pcs (Plain.comp g p) (fun r=>(p.sub g (Plain.comp g p r)).e) (Plain.roots g p))∧Chg [] w w':=by
 have HR:=lh hr;have HPK:=lh (Plain.Pt.ok_of_err hr);have HVR:=lh (Plain.rises_pair (Plain.Pt.err_ok hr).2.1);have HGN:=lh (Plain.Gr.err_ok (Plain.Pt.err_ok hr).1);have HG:=lh hg;have HP:=lh hp;obtain⟨eo,cap,rfl,hn,hm,hsm,hcell⟩:=hg;obtain⟨v1,v2,rfl,hv,he⟩:=hp;obtain⟨ao,ac,rfl,has,ham,hacell⟩:=hv;obtain⟨bo,bc,rfl,hbs,hbm,hbcell⟩:=he;have HAC:=lh hacell;obtain⟨-,-,hc1⟩:=box_two w #[.int .i64 g.n,.slice eo g.e.length cap] #[.slice ao p.v.length ac,.slice bo p.e.length bc] 24 27;have HC1:=lh hc1;have HBXS:=lh (fun w2 h=>two_boxes w (g:=g) (p:=p) (eo:=eo) (ao:=ao) (bo:=bo) (cap:=cap) (ac:=ac) (bc:=bc) (w2:=w2) h);clear hcell hacell hbcell hsm hbs hn hc1;obtain⟨x0,x1,y0,y1,hsz⟩:=HBXS.out _ (Chg.refl _ _)
 go_enter Tryz.func26,Tryz.ntmps26
 go_wp2;obtain⟨w1,hw1⟩:∃ w1,((w.alloc (.cells #[.int .i64 g.n,.slice eo g.e.length cap] 24)).alloc (.cells #[.slice ao p.v.length ac,.slice bo p.e.length bc] 27))=w1:=⟨_,rfl⟩;rw[hw1] at HC1 HBXS ⊢;clear hw1 x0 x1 y0 y1 hsz
 go_loopw [5,6,7] (fun ov av c wr=>∃ (k:Nat) (A:List Int) (xs:List Value),k≤p.v.length∧c=.int .i64 k∧Nest wr w1.heap.size 27 2 ov (Plain.rootsTo g p k).length xs (rpcs g p (Plain.rootsTo g p k))∧RowAt wr w1.heap.size av A∧(∀ k b,k<xs.length→(xs.getD k undef).ownBlock=some b→b ∉ foot av)∧A.length≤k*1000∧Hid (Plain.Gone g p k A)∧Chg [] w1 wr) (fun _ _ c _=>p.v.length - (intOf c).toNat)
 case atStart=>exact⟨0,[],[],Nat.zero_le _,rfl,by rw[Plain.rootsTo_zero];exact Nest.nil _ _ _ _,rowNil _ _,by simp,by simp,lh (Plain.Gone.start g p),Chg.refl _ _⟩
 case round =>
  obtain⟨k,A,xs,hk,rfl,hown,hrow,hapx,hal,hmet,hc⟩:=hrel;have HAPX:=lh hapx;have HOWN:=lh hown;have HROW:=lh hrow;have HC:=lh hc;obtain⟨oo,oc,rfl⟩:=hown.shape;obtain⟨mo,mc,rfl⟩:=hrow.shape;obtain⟨x0,x1,y0,y1,hsz⟩:=HBXS.out wr hc;by_cases hlt:k<p.v.length
  ·obtain⟨vb,voff,rfl,hvc⟩:=HAC.out (by intro e;rw[e] at hlt;simp at hlt)
   have ck:=hc.c (HC1.out.c (hvc k hlt));have IV:=has (p.v.getD k 0) (Plain.getD_mem hlt);have HVM:=lh (Plain.getD_mem hlt);have HSK:=lh (fun h=>Plain.Gone.skip HPK.out hmet.out hlt h);have HAD:=lh (fun h M hM=>Plain.Gone.add (M:=M) HPK.out HVR.out hmet.out hlt h hM);have HR0:=lh (fun h=>Plain.rootsTo_same hlt (Plain.Gone.known HPK.out hmet.out hlt h));have HR1:=lh (show p.v.getD k 0 ∉ A→Plain.rootsTo g p (k+1)=Plain.rootsTo g p k++[p.v.getD k 0] from fun h=>Plain.rootsTo_snoc hlt (Plain.Gone.root HPK.out HVR.out hmet.out hlt h));have hrl:=Plain.rootsTo_len g p k;obtain⟨v,hve⟩:∃ v,p.v.getD k 0=v:=⟨_,rfl⟩;rw[hve] at ck IV HVM HSK HAD HR0 HR1;obtain⟨rn,hrn⟩:∃ rn,(Plain.rootsTo g p k).length=rn:=⟨_,rfl⟩;have HRN:=lh hrn;obtain⟨RT,hRT⟩:∃ RT,Plain.rootsTo g p k=RT:=⟨_,rfl⟩;have HRT:=lh hRT;rw[hrn] at hrl;rw[hrn] at hown HOWN ⊢;rw[hRT] at hown HOWN HR1 hrn;have HRNT:=lh hrn;clear hRT;have HVC:=lh (show ∀ wx,Chg [] w1 wx→wx.cell? ⟨vb,voff+k,none⟩=some (.int .i64 v) from fun wx hx=>by rw[←hve];exact hx.c (HC1.out.c (hvc k hlt)));clear hve hrn hown hrow hmet hc hvc hapx
   go_wp2_with fail
   refine (in_any _ A v _ HROW.out.ints).mono ?_;rintro e w2 ⟨rfl,hc2⟩;have HC2:=lh (HC.out.t hc2);have HOWN2:=lh (HOWN.out.fresh hc2);have HROW2:=lh (HROW.out.chg hc2 (by simp));clear x0 x1 y0 y1 hsz hc2 ck;obtain⟨x0,x1,y0,y1,hsz⟩:=HBXS.out w2 HC2.out;have ck:=HVC.out w2 HC2.out;by_cases hin:v∈A
   ·have HM:=lh (HSK.out hin)
    have HE:=lh (HR0.out hin);rw[decide_eq_true hin];clear hin;go_wp2
    go_roundw
    case rel=>exact⟨k+1,A,xs,by omega,by go_num,by rw[HE.out,HRN.out,HRT.out];exact HOWN2.out,HROW2.out,HAPX.out,by omega,HM,HC2.out⟩
    case measure=>simp[intOf];omega
   have HE:=lh (HR1.out hin);have HM:=lh (HAD.out hin);rw[decide_eq_false hin];clear hin;go_wp2;have hS0:(fun w':World=>w'.cell? ⟨w.heap.size,0,none⟩=some (.int .i64 g.n)∧w'.cell? ⟨w.heap.size,1,none⟩=some (.slice eo g.e.length cap)∧w'.cell? ⟨w.heap.size+1,0,none⟩=some (.slice (some ⟨vb,voff,none⟩) p.v.length ac)∧w'.cell? ⟨w.heap.size+1,1,none⟩=some (.slice bo p.e.length bc)∧w'.cell? ⟨vb,voff+k,none⟩=some (.int .i64 v)) w2.drew:=⟨x0,x1,y0,y1,ck⟩;refine wp_region_way (fun w':World=>w'.cell? ⟨w.heap.size,0,none⟩=some (.int .i64 g.n)∧w'.cell? ⟨w.heap.size,1,none⟩=some (.slice eo g.e.length cap)∧w'.cell? ⟨w.heap.size+1,0,none⟩=some (.slice (some ⟨vb,voff,none⟩) p.v.length ac)∧w'.cell? ⟨w.heap.size+1,1,none⟩=some (.slice bo p.e.length bc)∧w'.cell? ⟨vb,voff+k,none⟩=some (.int .i64 v)) [0,1,2,3,4,5,6] (Way.line [0,1,2,3,4,5,6,7,8,9] .done) (by kernel_rfl) (by kernel_rfl) ?_;simp only[Way.line]
   repeat
    first
     | (refine along_off rfl (by rfl) (by rfl) (fun _ _ _ h=>h) hS0 ?_;simp only[Act.put,Z1,Z2,Z3,Z4,Z5,Z6])
     | (refine along_read (v:=?_) rfl (by rfl) (by rfl) (fun _ _ _ h=>h) hS0 (fun w' hS'=>?_) ?_;rotate_left;(focus ((try dsimp only at hS');go_simp;try with_reducible rfl));simp only[Act.put,Z1,Z2,Z3,Z4,Z5,Z6])
     | (refine along_skip rfl (by rfl) (by rfl) hS0 ?_;simp only[Act.put,Z1,Z2,Z3,Z4,Z5,Z6])
   refine along_op rfl (by rfl) (by rfl) (fun K hK=>?_);go_simp;have hSC:=((Chg.refl [] w2).alloc (.cells #[.int .i64 v] 3)).drew;have HLI:=lh ((lit_ints w2 IV).fresh (Chg.refl [] _).drew);have HCD:=lh (HC2.out.t hSC);have HOWN3:=lh (HOWN2.out.fresh hSC);have HROW3:=lh (HROW2.out.chg hSC (by simp));have hS1:(fun w':World=>w'.cell? ⟨w.heap.size,0,none⟩=some (.int .i64 g.n)∧w'.cell? ⟨w.heap.size,1,none⟩=some (.slice eo g.e.length cap)∧w'.cell? ⟨w.heap.size+1,0,none⟩=some (.slice (some ⟨vb,voff,none⟩) p.v.length ac)∧w'.cell? ⟨w.heap.size+1,1,none⟩=some (.slice bo p.e.length bc)∧w'.cell? ⟨vb,voff+k,none⟩=some (.int .i64 v)) (w2.alloc (.cells #[.int .i64 v] 3)).drew:=⟨hSC.c x0,hSC.c x1,hSC.c y0,hSC.c y1,hSC.c ck⟩;refine hK.out _ _ (fun _=>hS1) ?_;clear hK K hS0 hSC x0 x1 y0 y1 ck hsz;generalize (w2.alloc (.cells #[.int .i64 v] 3)).drew=wa at *;generalize w2.heap.size=nl at *
   try simp only[Act.put,Z1,Z2,Z3,Z4,Z5,Z6]
   refine along_op rfl (by rfl) (by rfl) (fun K hK=>?_);go_simp;refine (spread_any _ _ _ g p v (-1) _ (by omega) hE HR.out HVM.out (HG.out.fresh (HC1.out.t HCD.out)) (HP.out.fresh (HC1.out.t HCD.out)) HLI.out).mono ?_;rintro e w3 ⟨v3,M,rfl,rM,hM,hMn,hc3⟩;obtain⟨uo,uc,rfl⟩:=rM.shape;have hml:M.length≤1000:=Nat.le_trans (Plain.nodup_le hMn fun x hx=>come_mem HPK.out HVM.out ((hM x).1 hx)) hV;have HMI:=lh rM.ints;have HRM:=lh (rM.base (Nat.zero_le _));have HRA:=lh (show ∀ b∈(Value.slice uo M.length uc).ownBlock.toList,b ∉ foot (Value.slice mo A.length mc) from fun b hb e=>by
    have h1:=(rM.low b hb).1;have h2:=(HROW3.out.low b (by simpa[foot_slice] using e)).2;omega)
   have HMM:=lh (HM.out M hM);have HMC:=lh hM;have HC3:=lh (HCD.out.t hc3);have HOWN4:=lh (HOWN3.out.fresh hc3);have HROW4:=lh (HROW3.out.chg hc3 (by simp));have hS2:(fun w':World=>w'.cell? ⟨w.heap.size,0,none⟩=some (.int .i64 g.n)∧w'.cell? ⟨w.heap.size,1,none⟩=some (.slice eo g.e.length cap)∧w'.cell? ⟨w.heap.size+1,0,none⟩=some (.slice (some ⟨vb,voff,none⟩) p.v.length ac)∧w'.cell? ⟨w.heap.size+1,1,none⟩=some (.slice bo p.e.length bc)∧w'.cell? ⟨vb,voff+k,none⟩=some (.int .i64 v)) w3:=by
    obtain⟨q0,q1,q2,q3,q4⟩:=hS1;exact⟨hc3.c q0,hc3.c q1,hc3.c q2,hc3.c q3,hc3.c q4⟩
   refine hK.out _ _ (fun _=>hS2) ?_;clear hK K hS1 rM hM hMn hc3
   try simp only[Act.put,Z1,Z2,Z3,Z4,Z5,Z6]
   refine along_op rfl (by rfl) (by rfl) (fun K hK=>?_);go_simp;refine hK.out _ _ (fun _=>hS2) ?_;clear hK K hS2
   try simp only[Act.put,Z1,Z2,Z3,Z4,Z5,Z6]
   refine along_done ?_;have HB3:=lh (show w1.heap.size≤w3.heap.size from HC3.out.size);have hsum:A.length+M.length<4294967296:=by omega
   have HNR:=lh (fun b (hb:(Value.slice oo rn oc).ownBlock=some b) (e:b∈foot (Value.slice mo A.length mc))=>show False by
    rcases owns_two HOWN4.out.out HROW4.out.1 (by decide) with q | q
    ·rw[q] at hb;cases hb
    exact q (hb.trans (by simpa[foot_slice] using e:(Value.slice mo A.length mc).ownBlock=some b).symm))
   have HFL:=lh (show ∀ j∈foot (Value.slice mo A.length mc),w1.heap.size≤j from fun j hj=>(HROW4.out.low j (by simpa[foot_slice] using hj)).1)
   go_wp2_with (first
    | (at_builtin;refine wl_app_read rfl _ _ rfl (B:=w1.heap.size) rfl rfl HROW4.out HMI.out HB3.out hsum ?_;intro v6 w6 r6 c6 f6;have R6:=lh r6;have HC6:=lh (HC3.out.trans c6 (fun j hj=>Or.inr (HFL.out j hj)));have HOWN6:=lh (HOWN4.out.chg c6 (fun b hb e=>HNR.out b hb e) (fun k b hk hb=>HAPX.out k b hk hb));have F6:=lh f6;have HLT4:=lh (fun k b (hk:k<xs.length) (hb:(xs.getD k undef).ownBlock=some b)=>(HOWN4.out.kind hk hb).2.1);have HMI6:=lh (HRM.out.chg c6 HRA.out).ints;obtain⟨x0,x1,y0,y1,hsz⟩:=HBXS.out w6 HC6.out;clear r6 c6 f6)
    | fail)
   refine (sub_any _ _ _ g p M _ (by omega) hE HR.out (HG.out.fresh (HC1.out.t HC6.out)) (HP.out.fresh (HC1.out.t HC6.out)) HMI6.out).mono ?_;rintro e w8 ⟨s1,s2,rfl,q1,q2,q3,hc8⟩;obtain⟨s1o,s1c,rfl⟩:=q1.shape;obtain⟨s2o,s2c,rfl⟩:=q2.shape;have HC8:=lh (HC6.out.t hc8);have HOWN8:=lh (HOWN6.out.fresh hc8);have Q1:=lh q1;have Q2:=lh q2;have Q3:=lh q3;have HS6:=lh (show w1.heap.size≤w6.heap.size from HC6.out.size);have HROW8:=lh (R6.out.chg hc8 (by simp));have HB8:=lh (show w1.heap.size≤w8.heap.size from HC8.out.size);obtain⟨v6o,v6c,rfl⟩:=R6.out.shape;have HN8:=lh (show ∀ b∈(Value.slice v6o (A++M).length v6c).ownBlock.toList,b ∉ (Value.slice oo rn oc).ownBlock.toList from fun b hb e=>by
    rcases owns_two HOWN8.out.out HROW8.out.1 (by decide) with q | q
    ·rw[q] at e;simp at e
    exact q ((by simpa using e:(Value.slice oo rn oc).ownBlock=some b).trans (by simpa using hb:(Value.slice v6o (A++M).length v6c).ownBlock=some b).symm))
   have hrn:rn<68719476736:=by omega
   clear q1 q2 q3 hc8 x0 x1 y0 y1 hsz
   go_wp2_with (at_builtin;refine wp_app elemPart rfl (.tmp 35) (.tmp 40) rfl (v:=.slice oo rn oc) rfl rfl rfl HOWN8.out.out HB8.out rfl (by intro u hu;simp at hu;rcases hu with rfl | rfl <;> rfl) hrn ?_;intro g9 cap9 w9 r9 c9 l9;have R9:=lh r9;have C9:=lh c9;clear r9 c9 l9;go_frame)
   have HPV:=lh (show (p.sub g M).v=Plain.comp g p v∧(p.sub g M).e=(p.sub g (Plain.comp g p v)).e from sub_comp HPK.out HMC.out);have HNW:=lh (HOWN8.out.add (w':=w9) (g:=g9) (cap:=cap9) (us:=[.slice s1o (p.sub g M).v.length s1c,.slice s2o (p.sub g M).e.length s2c]) (ds:=[.row (p.sub g M).v,.row (p.sub g M).e]) (by decide) rfl rfl (fun i d hi=>by
     rcases i with _ | _ | i
     ·simp at hi;subst hi;exact Q1.out.base HS6.out
     ·simp at hi;subst hi;exact Q2.out.base HS6.out
     ·simp at hi) (fun i j hi hj hne=>by
     simp at hi hj;have hap:=Q3.out;rw[Q1.out.foot,Q2.out.foot] at hap;rcases i with _ | _ | i
     ·rcases j with _ | _ | j
      ·omega
      ·cases hq:([Value.slice s1o (p.sub g M).v.length s1c,.slice s2o (p.sub g M).e.length s2c].getD 0 undef).ownBlock with
       | none=>exact Or.inl rfl
       | some b=>exact Or.inr (fun e=>hap b (by simpa using hq) (by simpa using e.symm))
      omega
     ·rcases j with _ | _ | j
      ·cases hq:([Value.slice s1o (p.sub g M).v.length s1c,.slice s2o (p.sub g M).e.length s2c].getD 1 undef).ownBlock with
       | none=>exact Or.inl rfl
       | some b=>exact Or.inr (fun e=>hap b (by simpa using e.symm) (by simpa using hq))
      ·omega
      omega
     ·omega) (fun i j b hi hj hb e=>by
     simp at hj;have h1:=(HOWN6.out.kind hi hb).2.1;rcases j with _ | _ | j
     ·have:=(Q1.out.low b (by simpa using e)).1;omega
     ·have:=(Q2.out.low b (by simpa using e)).1;omega
     omega) R9.out C9.out)
   go_roundw
   case rel =>
    refine⟨k+1,A++M,xs++[.slice s1o (p.sub g M).v.length s1c,.slice s2o (p.sub g M).e.length s2c],by omega,by go_num,?_,by simpa only[List.length_append] using HROW8.out.chg C9.out HN8.out,?_,by rw[List.length_append];omega,HMM,HC8.out.trans C9.out (fun j hj=>Or.inr (HOWN8.out.out.lt j (by simpa using hj)).1)⟩
    ·rw[HE.out,List.length_append,HRNT.out,rpcs_snoc,←HPV.out.2,←HPV.out.1]
     exact HNW.out
    intro i b hi hb e;rw[←List.length_append] at e;have h6:=F6.out b e;have hl6:b<w6.heap.size:=(R6.out.low b (by rw[←R6.out.foot];exact e)).2;by_cases q:i<xs.length
    ·rw[getD_left q] at hb
     rcases h6 with r | r
     ·exact HAPX.out i b q hb r
     have:=HLT4.out i b q hb;omega
    rw[getD_right (by omega)] at hb;have hi2:i - xs.length<2:=by simp at hi;omega
    rcases (show i - xs.length=0∨i - xs.length=1 by omega) with r | r
    ·rw[r] at hb
     have:=(Q1.out.low b (by simpa using hb)).1;omega
    rw[r] at hb;have:=(Q2.out.low b (by simpa using hb)).1;omega
   case measure=>simp[intOf];omega
  have e:k=p.v.length:=by omega
  subst e;rw[Plain.rootsTo_all] at HOWN hown ⊢;have HCF:=lh (HC1.out.t HC.out);clear hown hrow hmet hc x0 x1 hapx;obtain⟨rn,hrn⟩:∃ rn,(Plain.roots g p).length=rn:=⟨_,rfl⟩;have HRN:=lh hrn;have HNF:=lh (HOWN.out.base HC1.out.size);rw[hrn] at HNF ⊢;clear hrn;go_wp2;go_ret;exact⟨_,xs,rfl,by rw[HRN.out];exact HNF.out,HCF.out⟩
end Go.Proofs.YtmhcmnaecpagiaaGreat
