/- Turns, told vertex by vertex: as many darts as leave it, each once, all of them. No program here. -/
import Derived.Test.YtmhcmnaecpagiaaGreatZRefG
namespace Go.Proofs.YtmhcmnaecpagiaaGreat.Plain
def dartsAt (g:Gr) (p:Pt) (v:Int):List Int:=p.darts.filter fun d=>decide (g.tail d=v)
def dartsTo (g:Gr) (p:Pt) (v:Int) (k:Nat):List Int:=(p.darts.take k).filter fun d=>decide (g.tail d=v)
theorem dartsTo_zero (g:Gr) (p:Pt) (v:Int):dartsTo g p v 0=[]:=by simp[dartsTo]
theorem dartsTo_all (g:Gr) (p:Pt) (v:Int):dartsTo g p v p.darts.length=dartsAt g p v:=by unfold dartsTo dartsAt;rw[List.take_length]
theorem dartsTo_next {g:Gr} {p:Pt} {v:Int} {k:Nat} (hk:k<p.darts.length):dartsTo g p v (k+1)=if g.tail (p.darts.getD k 0)=v then dartsTo g p v k++[p.darts.getD k 0] else dartsTo g p v k:=by
 unfold dartsTo;rw[take_snoc hk,List.filter_append];by_cases h:g.tail (p.darts.getD k 0)=v
 ·rw[List.filter_cons_of_pos (by simpa using h),if_pos h];rfl
 rw[List.filter_cons_of_neg (by simpa using h),if_neg h];simp
theorem dartsTo_len (g:Gr) (p:Pt) (v:Int) (k:Nat):(dartsTo g p v k).length≤k :=
 Nat.le_trans (List.length_filter_le _ _) (by rw[List.length_take];omega)
theorem mem_dartsAt {g:Gr} {p:Pt} {v d:Int}:d∈dartsAt g p v↔d∈p.darts∧g.tail d=v:=by simp[dartsAt]
theorem dartsAt_nodup {g:Gr} {p:Pt} (h:p.e.Nodup) (v:Int):(dartsAt g p v).Nodup:=(darts_nodup h).filter _
theorem darts_getD {p:Pt} {i:Nat} (hi:i<p.e.length) (s:Nat) (hs:s<2):p.darts.getD (2*i+s) 0=2*p.e.getD i 0+s:=by
 obtain⟨v,e⟩:=p;unfold Pt.darts;dsimp only at hi ⊢
 induction e generalizing i with
 | nil=>simp at hi
 | cons a l ih =>
  rw[List.flatMap_cons];cases i with
  | zero=>rcases (show s=0∨s=1 by omega) with rfl | rfl <;> simp[List.getD]
  | succ i =>
   have:=ih (i:=i) (by simpa using hi);rw[show 2*(i+1)+s=(2*i+s)+2 by omega];simpa[List.getD] using this
def rowOk (g:Gr) (p:Pt) (turn:List (List Int)) (v:Int):Prop:=(dartsAt g p v).length=(turnAt turn v).length∧(turnAt turn v).Nodup∧∀ d∈dartsAt g p v,d∈turnAt turn v
theorem perm_of_sub {l m:List Int} (hl:l.Nodup) (h:∀ x∈l,x∈m) (hlen:l.length=m.length):∀ x∈m,x∈l:=by
 intro x hx;refine Classical.byContradiction fun q=>?_;have h1:=len_le_of_sub (l:=x :: l) (m:=m) (List.nodup_cons.2 ⟨q,hl⟩) (fun y hy=>by rcases List.mem_cons.1 hy with r | r;exact r ▸ hx;exact h y r);simp at h1;omega
theorem TurnsOk.rowOk {g:Gr} {p:Pt} {turn:List (List Int)} (hp:PartOk g p) (h:TurnsOk g p turn) {v:Int} (h0:0≤v) (hn:v<g.n):rowOk g p turn v:=by
 have hm:∀ d,d∈dartsAt g p v↔d∈turnAt turn v:=fun d=>by rw[mem_dartsAt,h.mem v h0 hn]
 exact⟨((List.perm_ext_iff_of_nodup (dartsAt_nodup hp.en v) (h.nodup v)).2 hm).length_eq,h.nodup v,fun d hd=>(hm d).1 hd⟩
theorem turns_of_rows {g:Gr} {p:Pt} {turn:List (List Int)} (hp:PartOk g p) (hl:(turn.length:Int)=g.n) (h:∀ v:Nat,(v:Int)<g.n→Plain.rowOk g p turn v):TurnsOk g p turn:=by
 have hrow:∀ v:Int,0≤v→v<g.n→Plain.rowOk g p turn v:=fun v h0 hn=>by
  have:=h v.toNat (by omega);rwa[show ((v.toNat:Nat):Int)=v by omega] at this
 refine⟨hl,fun v=>?_,fun v h0 hn d=>?_⟩
 ·by_cases h1:v.toNat<turn.length
  ·have:=(hrow (v.toNat:Nat) (by omega) (by omega)).2.1
   unfold turnAt at this ⊢;rwa[Int.toNat_natCast] at this
  unfold turnAt;rw[List.getD,List.getElem?_eq_none (by omega)];simp
 obtain⟨h1,-,h3⟩:=hrow v h0 hn;rw[←mem_dartsAt];exact⟨fun hd=>perm_of_sub (dartsAt_nodup hp.en v) h3 h1 d hd,h3 d⟩
theorem Pt.edge_in {g:Gr} {p:Pt} (h:p.err g=0) {e:Int} (he:e∈p.e):0≤e∧e<g.e.length:=by
 obtain⟨i,hi,rfl⟩:=mem_getD he;have:=rises_at (Pt.err_ok h).2.2.1 hi;exact⟨this.1,this.2.1⟩
theorem Pt.dart_nat {g:Gr} {p:Pt} (h:p.err g=0) {d:Int} (hd:d∈p.darts):∃ n:Nat,d=n∧n / 2<g.e.length∧n<2048:=by
 have h1:=edge_in h (mem_darts.1 hd);have h2:=Gr.err_ok (Pt.err_ok h).1;exact⟨d.toNat,by omega,by omega,by omega⟩
theorem turnErr_len {g:Gr} {p:Pt} {turn:List (List Int)} (h:p.err g=0) (hl:(turn.length:Int)≠g.n):turnErr g p turn=5:=turnErr_bad h fun k=>hl k.len
theorem turnErr_row {g:Gr} {p:Pt} {turn:List (List Int)} (h:p.err g=0) {v:Nat} (hv:(v:Int)<g.n) (hr:¬ Plain.rowOk g p turn v):turnErr g p turn=5:=turnErr_bad h fun k=>hr (k.rowOk (Pt.ok_of_err h) (by omega) hv)
end Go.Proofs.YtmhcmnaecpagiaaGreat.Plain
namespace Go.Proofs.YtmhcmnaecpagiaaGreat
open Go.RowKit Go.Maps
theorem row_lit1 {w:World} {B:Nat} (hB:B≤w.heap.size) {k:Int} (hk:I64 k):RowAt (w.alloc (.cells #[.int .i64 k] 3)) B (.slice (some ⟨w.heap.size,0,none⟩) 1 1) [k] :=
 ⟨World.ownsRow_lit w #[.int .i64 k] 1 hB (by decide) rfl,by simpa using hk,by simp⟩
theorem wl_push {ops:Array Oper} {rest:List Oper} {o:Oper} {a:Act} {Q:Exit→Act→World→Prop} {w w0:World} (hg:o.guard=none) (s x:Operand) (ho:o.op=.call { callee:=.builtin .append,args:=#[s,x],argTypes:=#[25,25] })
  {B:Nat} {v:Value} {l:List Int} {k:Int} (hs:a.eval s=v) (hx:a.eval x=.slice (some ⟨w0.heap.size,0,none⟩) 1 1) (h:RowAt w0 B v l) (hk:I64 k) (hB:B≤w0.heap.size) (hn:l.length<4294967290) (hw:w=w0.alloc (.cells #[.int .i64 k] 3))
  (hK:∀ v' w',RowAt w' B v' (l++[k])→Chg (foot v) w0 w'→(∀ b∈foot v',b∈foot v∨w0.heap.size≤b)→wpList Tryz.prog ops Q rest (a.put o.dst v') w'):wpList Tryz.prog ops Q (o :: rest) a w:=by
 subst hw;have hc:=(Chg.refl [] w0).alloc (.cells #[.int .i64 k] 3);refine wl_cat hg s x ho hs hx (h.chg hc (by simp)) (row_lit1 (B:=w0.heap.size) (Nat.le_refl _) hk) (Nat.le_trans hB hc.size) (by simp;omega) fun v' w' r1 r2 r3=>hK v' w' r1 ((hc.mono (by simp)).trans r2 fun j hj=>Or.inl hj) fun b hb=>(r3 b hb).imp id fun q=>Nat.le_trans hc.size q
theorem IntsAt.cellAt {w:World} {ao:Option Addr} {n c:Nat} {l:List Int} (h:IntsAt w (.slice ao n c) l) {i:Nat} (hi:i<l.length):∃ b off,ao=some ⟨b,off,none⟩∧w.cell? ⟨b,off+i,none⟩=some (.int .i64 (l.getD i 0)):=by
 obtain⟨ao',c',e',-,-,h⟩:=h;simp only[Value.slice.injEq] at e';obtain⟨rfl,-,rfl⟩:=e';obtain⟨b,off,rfl,h2⟩:=h (by intro q;rw[q] at hi;simp at hi);exact⟨b,off,rfl,h2 i hi⟩
theorem RowsAt.row {w:World} {tno:Option Addr} {n tc:Nat} {ll:List (List Int)} (h:RowsAt w (.slice tno n tc) ll) {k:Nat} (hk:k<ll.length):∃ b off uo uc,tno=some ⟨b,off,none⟩∧w.cell? ⟨b,off+k,none⟩=some (.slice uo (ll.getD k []).length uc)∧IntsAt w (.slice uo (ll.getD k []).length uc) (ll.getD k []):=by
 obtain⟨ao,cap,e,-,h2⟩:=h;simp only[Value.slice.injEq] at e;obtain⟨rfl,rfl,rfl⟩:=e;obtain⟨b,off,u,rfl,h3,-,h5⟩:=h2 k hk;have h6:=h5;obtain⟨uo,uc,rfl,-⟩:=h5;exact⟨b,off,uo,uc,rfl,h3,h6⟩
theorem rowNil' (w:World) (B:Nat):RowAt w B (.slice none 0 0) []:=⟨World.ownsRow_nil _ _ _ _,by simp,by simp⟩
set_option maxRecDepth 100000 in
set_option maxHeartbeats 4000000 in
theorem refDarts_any (vg vp:Value) (g:Plain.Gr) (p:Plain.Pt) (v:Int) (w:World) (hE:p.e.length≤1000000) (hr:p.err g=0) (hg:GrAt w vg g) (hp:PtAt w vp p) :
  Calls Tryz.prog 79 #[vg,vp,.int .i64 v] w fun e w'=>∃ ov,e=.returned ov∧RowAt w' w.heap.size ov (Plain.dartsAt g p v)∧Chg [] w w':=by
 have HRE:=lh (Plain.Pt.err_ok hr).2.2.1;have HGE:=lh (Plain.Gr.err_ok (Plain.Pt.err_ok hr).1);have hdl:=Plain.darts_length p;have HDA:=lh (Plain.dartsTo_all g p v);rw[hdl] at HDA;have HDL:=lh hdl;have HD0:=lh (Plain.dartsTo_zero g p v);clear hdl;have HG:=lh hg;have HP:=lh hp;obtain⟨eo,cap,rfl,hn,hm,hsm,hcell⟩:=hg;obtain⟨v1,v2,rfl,hv,he⟩:=hp;obtain⟨ao,ac,rfl,has,ham,hacell⟩:=hv;obtain⟨bo,bc,rfl,hbs,hbm,hbcell⟩:=he;have HAC:=lh hacell;have HBC:=lh hbcell;have HAS:=lh has;have HBS:=lh hbs;obtain⟨-,-,hc1⟩:=box_two w #[.int .i64 g.n,.slice eo g.e.length cap] #[.slice ao p.v.length ac,.slice bo p.e.length bc] 24 27;have HC1:=lh hc1;have HBXS:=lh (fun w2 h=>two_boxes w (g:=g) (p:=p) (eo:=eo) (ao:=ao) (bo:=bo) (cap:=cap) (ac:=ac) (bc:=bc) (w2:=w2) h);clear hcell hacell hbcell hsm has hbs hn hc1;obtain⟨x0,x1,y0,y1,hsz⟩:=HBXS.out _ (Chg.refl _ _);clear hr
 go_enter Tryz.func79,Tryz.ntmps79
 go_wp2;obtain⟨w1,hw1⟩:∃ w1,((w.alloc (.cells #[.int .i64 g.n,.slice eo g.e.length cap] 24)).alloc (.cells #[.slice ao p.v.length ac,.slice bo p.e.length bc] 27))=w1:=⟨_,rfl⟩;rw[hw1] at HC1 HBXS ⊢;clear hw1 x0 x1 y0 y1 hsz;have HB1:=lh HC1.out.size
 go_loopw [7,8] (fun ov c wr=>∃ k:Nat,k≤p.e.length∧c=.int .i64 k∧RowAt wr w1.heap.size ov (Plain.dartsTo g p v (2*k))∧Chg [] w1 wr) (fun _ c _=>p.e.length - (intOf c).toNat)
 case atStart=>exact⟨0,Nat.zero_le _,rfl,by rw[show 2*0=0 from rfl,HD0.out];exact rowNil' _ _,Chg.refl _ _⟩
 case round =>
  obtain⟨k,hk,rfl,hrow,hc⟩:=hrel;have HROW:=lh hrow;have HC:=lh hc;obtain⟨oo,oc,rfl⟩:=hrow.shape;obtain⟨x0,x1,y0,y1,hsz⟩:=HBXS.out wr hc;by_cases hlt:k<p.e.length
  ·obtain⟨bb,boff,rfl,hbc⟩:=HBC.out (by intro e;rw[e] at hlt;simp at hlt)
   have HCK:=lh (HC1.out.c (hbc k hlt));have hre:=Plain.rises_at HRE.out hlt;obtain⟨ei,hei⟩:∃ ei:Nat,p.e.getD k 0=(ei:Int):=⟨(p.e.getD k 0).toNat,by omega⟩;have HNX:=lh (fun s (hs:s<2)=>(show Plain.dartsTo g p v (2*k+s+1)=if g.tail ((2*ei+s:Nat):Int)=v then Plain.dartsTo g p v (2*k+s)++[((2*ei+s:Nat):Int)] else Plain.dartsTo g p v (2*k+s) by
    rw[Plain.dartsTo_next (by rw[HDL.out];omega),Plain.darts_getD hlt s hs,hei];rw[show (2*(ei:Int)+(s:Int))=((2*ei+s:Nat):Int) by omega]))
   rw[hei] at HCK hre;have hei2:ei<g.e.length:=by omega
   have hglen:g.e.length<4294967296:=by have:=HGE.out.2.2.1;have:=HGE.out.1;omega
   have hgl2:g.e.length≤1024:=by have:=HGE.out.2.2.1;have:=HGE.out.1;omega
   have w2e:IntKind.i64.wrap (2*(ei:Int))=2*(ei:Int):=IntWalk.i64_in _ (by omega);clear hbc hre hrow hc;go_wp2
   go_loopw [7,9] (fun ov c wi=>∃ s:Nat,s≤2∧c=.int .i64 s∧RowAt wi w1.heap.size ov (Plain.dartsTo g p v (2*k+s))∧Chg [] w1 wi) (fun _ c _=>2 - (intOf c).toNat)
   case atStart=>exact⟨0,by omega,rfl,HROW.out,HC.out⟩
   case round =>
    rename World=>wi;obtain⟨s,hs,rfl,hrow,hc⟩:=hrel;have HROW:=lh hrow;have HC:=lh hc;obtain⟨oo,oc,rfl⟩:=hrow.shape;obtain⟨x0,x1,y0,y1,hsz⟩:=HBXS.out wi hc;have ck:=hc.c HCK.out;clear hrow hc;by_cases hs2:s<2
    ·have HN:=lh (HNX.out s hs2)
     have wad:IntKind.i64.wrap (2*(ei:Int)+(s:Int))=((2*ei+s:Nat):Int):=by rw[IntWalk.i64_in _ (by omega)];omega
     have hdlen:=Plain.dartsTo_len g p v (2*k+s);have HID:=lh (show I64 ((2*ei+s:Nat):Int) from I64.mk (by omega) (by omega));obtain⟨d,hd⟩:∃ d,2*ei+s=d:=⟨_,rfl⟩;rw[hd] at HN wad HID;have hd2:d / 2<g.e.length:=by omega
     clear hd;go_wp2;have hS0:Chg [] wi wi.drew:=(Chg.refl [] wi).drew;refine wp_region_way (Chg [] wi) [0,1,2,3,4,5,6,7,8,10,11] (Way.line [0,1,2,3,4,5,6,7,8,10,9,11] .done) (by kernel_rfl) (by kernel_rfl) ?_;simp only[Way.line]
     repeat
      first
       | (refine along_off rfl (by rfl) (by rfl) (fun _ _ _ h=>h) hS0 ?_;simp only[Act.put,Z1,Z2,Z3,Z4,Z5,Z6])
       | (refine along_read (v:=?_) rfl (by rfl) (by rfl) (fun _ _ _ h=>h) hS0 (fun w' hS'=>?_) ?_;rotate_left;(focus (have rd0:=hS'.c x0;have rd1:=hS'.c x1;have rd2:=hS'.c y0;have rd3:=hS'.c y1;have rd4:=hS'.c ck;clear hS';go_simp;try with_reducible rfl));simp only[Act.put,Z1,Z2,Z3,Z4,Z5,Z6])
       | (refine along_skip rfl (by rfl) (by rfl) hS0 ?_;simp only[Act.put,Z1,Z2,Z3,Z4,Z5,Z6])
     refine along_op rfl (by rfl) (by rfl) (fun K hK=>?_);go_simp;refine (tail_any _ g d _ hd2 hglen (HG.out.fresh (HC1.out.t (HC.out.t hS0)))).mono ?_;rintro e w3 ⟨rfl,hcx⟩;have hS1:=hS0.t hcx;clear hS0 hcx;have hS0:=hS1;clear hS1;refine hK.out _ _ (fun _=>hS0) ?_;clear hK K
     try simp only[Act.put,Z1,Z2,Z3,Z4,Z5,Z6]
     repeat
      first
       | (refine along_off rfl (by rfl) (by rfl) (fun _ _ _ h=>h) hS0 ?_;simp only[Act.put,Z1,Z2,Z3,Z4,Z5,Z6])
       | (refine along_read (v:=?_) rfl (by rfl) (by rfl) (fun _ _ _ h=>h) hS0 (fun w' hS'=>?_) ?_;rotate_left;(focus (have rd0:=hS'.c x0;have rd1:=hS'.c x1;have rd2:=hS'.c y0;have rd3:=hS'.c y1;have rd4:=hS'.c ck;clear hS';go_simp;try with_reducible rfl));simp only[Act.put,Z1,Z2,Z3,Z4,Z5,Z6])
       | (refine along_skip rfl (by rfl) (by rfl) hS0 ?_;simp only[Act.put,Z1,Z2,Z3,Z4,Z5,Z6])
     refine along_done ?_;have HC3:=lh (HC.out.t hS0);have HROW3:=lh (HROW.out.chg hS0 (by simp));clear x0 x1 y0 y1 hsz ck hS0;obtain⟨x0,x1,y0,y1,hsz⟩:=HBXS.out w3 HC3.out;have ck:=HC3.out.c HCK.out;by_cases ht:g.tail (d:Int)=v
     ·have HE:=lh (HN.out.trans (if_pos ht))
      have b1:(g.tail (d:Int)==v)=true:=by rw[beq_iff_eq];exact ht
      have HB3:=lh (show w1.heap.size≤w3.heap.size from HC3.out.size);clear ht
      go_wp2_with (at_builtin;refine wl_push rfl _ _ rfl (B:=w1.heap.size) (v:=.slice oo _ oc) rfl rfl HROW3.out HID.out HB3.out (by omega) rfl ?_;intro v6 w6 r6 c6 f6;have R6:=lh r6;have C6:=lh c6;clear r6 c6 f6)
      go_roundw
      case rel=>exact⟨s+1,by omega,by go_num,by rw[←Nat.add_assoc,HE.out];exact R6.out,HC3.out.trans C6.out (fun j hj=>Or.inr (by rw[HROW3.out.foot] at hj;exact (HROW3.out.low j hj).1))⟩
      case measure=>simp[intOf];omega
     have HE:=lh (HN.out.trans (if_neg ht));have b1:(g.tail (d:Int)==v)=false:=by rw[beq_eq_false_iff_ne];exact ht
     clear ht;go_wp2
     go_roundw
     case rel=>exact⟨s+1,by omega,by go_num,by rw[←Nat.add_assoc,HE.out];exact HROW3.out,HC3.out⟩
     case measure=>simp[intOf];omega
    have e:s=2:=by omega
    subst e;clear ck;go_wp2
    go_roundw
    case rel=>exact⟨k+1,by omega,by go_num,HROW.out,HC.out⟩
    case measure=>simp[intOf];omega
  have e:k=p.e.length:=by omega
  subst e;have HR:=lh (HROW.out.base HB1.out);rw[HDA.out] at HR ⊢;have HCF:=lh (HC1.out.t HC.out);clear hrow hc x0 x1;obtain⟨rn,hrn⟩:∃ rn,(Plain.dartsAt g p v).length=rn:=⟨_,rfl⟩;rw[hrn] at HR ⊢;clear hrn;go_wp2;go_ret;exact⟨_,rfl,HR.out,HCF.out⟩
set_option maxRecDepth 100000 in
set_option maxHeartbeats 4000000 in
theorem refTurn_any (vg vp vt:Value) (g:Plain.Gr) (p:Plain.Pt) (turn:List (List Int)) (w:World) (hpl:p.e.length≤1000000) (hpv:p.v.length≤1000000) (hgl:g.e.length<4294967296) (hg:GrAt w vg g) (hp:PtAt w vp p) (ht:RowsAt w vt turn) :
  Calls Tryz.prog 53 #[vg,vp,vt] w fun e w'=>e=.returned (.int .i64 (Plain.turnErr g p turn))∧Chg [] w w':=by
 have HT:=lh ht;have HG:=lh hg;have HP:=lh hp;obtain⟨eo,cap,rfl,hn,hm,hsm,hcell⟩:=hg;obtain⟨v1,v2,rfl,hv,he⟩:=hp;obtain⟨ao,ac,rfl,has,ham,hacell⟩:=hv;obtain⟨bo,bc,rfl,hbs,hbm,hbcell⟩:=he;have HAC:=lh hacell;have HBC:=lh hbcell;have HAS:=lh has;have HBS:=lh hbs;obtain⟨-,-,hc1⟩:=box_two w #[.int .i64 g.n,.slice eo g.e.length cap] #[.slice ao p.v.length ac,.slice bo p.e.length bc] 24 27;have HC1:=lh hc1;have HBXS:=lh (fun w2 h=>two_boxes w (g:=g) (p:=p) (eo:=eo) (ao:=ao) (bo:=bo) (cap:=cap) (ac:=ac) (bc:=bc) (w2:=w2) h);clear hcell hacell hbcell hsm has hbs hn hc1;obtain⟨tno,tc,rfl,htm,-⟩:=ht;obtain⟨x0,x1,y0,y1,hsz⟩:=HBXS.out _ (Chg.refl _ _)
 go_enter Tryz.func53,Tryz.ntmps53
 go_wp2_with fail
 refine (refPart_any _ _ g p _ (by omega) (by omega) hgl (HG.out.fresh HC1.out) (HP.out.fresh HC1.out)).mono ?_;rintro e w2 ⟨rfl,hc2⟩;obtain⟨w1,hw1⟩:∃ w1,((w.alloc (.cells #[.int .i64 g.n,.slice eo g.e.length cap] 24)).alloc (.cells #[.slice ao p.v.length ac,.slice bo p.e.length bc] 27))=w1:=⟨_,rfl⟩;rw[hw1] at HC1 HBXS hc2;clear hw1 x0 x1 y0 y1 hsz;have HC2:=lh hc2;have HT1:=lh (HT.out.fresh HC1.out);obtain⟨x0,x1,y0,y1,hsz⟩:=HBXS.out w2 hc2;clear hc2;by_cases hpe:p.err g=0
 ·rw[hpe]
  have HPE:=lh hpe;have HPO:=lh (Plain.Pt.ok_of_err hpe);have HGE:=lh (Plain.Gr.err_ok (Plain.Pt.err_ok hpe).1);clear hpe;by_cases hl:(turn.length:Int)=g.n
  ·have hgn:g.n≤1024:=HGE.out.2.1
   have HL:=lh hl;have b1:((turn.length:Int) != g.n)=false:=by rw[hl];simp
   clear hl;go_wp2
   go_loopw [8] (fun c wr=>∃ k:Nat,k≤turn.length∧c=.int .i64 k∧Hid (∀ i,i<k→Plain.rowOk g p turn (i:Nat))∧Chg [] w1 wr) (fun c _=>turn.length - (intOf c).toNat)
   case atStart=>exact⟨0,Nat.zero_le _,rfl,lh (fun i hi=>by omega),HC2.out⟩
   case round =>
    obtain⟨k,hk,rfl,hall,hc⟩:=hrel;have HC:=lh hc;obtain⟨x0,x1,y0,y1,hsz⟩:=HBXS.out wr hc;clear hc;by_cases hlt:k<turn.length
    ·have bk:decide ((k:Int)<g.n)=true:=decide_eq_true (by have:=HL.out;omega)
     have HBAD:=lh (fun h=>Plain.turnErr_row (g:=g) (p:=p) (turn:=turn) HPE.out (v:=k) (by have:=HL.out;omega) h);have HRI:=lh (show Plain.rowOk g p turn (k:Nat)↔(Plain.dartsAt g p k).length=(turn.getD k []).length∧(turn.getD k []).Nodup∧∀ d∈Plain.dartsAt g p k,d∈turn.getD k [] by unfold Plain.rowOk Plain.turnAt;rw[Int.toNat_natCast]);obtain⟨tb,toff,uo,uc,rfl,hcell,hrow⟩:=HT1.out.row hlt;have HTC:=lh hcell;have HROW:=lh hrow;obtain⟨T,hT⟩:∃ T,turn.getD k []=T:=⟨_,rfl⟩;rw[hT] at HRI HTC HROW;clear hcell hrow hT
     go_wp2_with fail
     refine (refDarts_any _ _ g p k _ hpl HPE.out ((HG.out.fresh HC1.out).fresh HC.out) ((HP.out.fresh HC1.out).fresh HC.out)).mono ?_;rintro e w3 ⟨ov,rfl,hov,hc3⟩;obtain⟨oo,oc,rfl⟩:=hov.shape;have HOV:=lh hov.ints;have HC3:=lh (HC.out.t hc3);clear x0 x1 y0 y1 hsz hov hc3;obtain⟨x0,x1,y0,y1,hsz⟩:=HBXS.out w3 HC3.out;have tcell:=HC3.out.c HTC.out;have hDl:(Plain.dartsAt g p k).length≤2000000:=by
      rw[←Plain.dartsTo_all];have h1:=Plain.dartsTo_len g p k p.darts.length;have h2:=Plain.darts_length p;omega
     obtain⟨D,hD⟩:∃ D,Plain.dartsAt g p k=D:=⟨_,rfl⟩;rw[hD] at HRI HOV hDl ⊢;clear hD;by_cases h1:(D.length:Int)=(T.length:Int)
     ·have b2:((D.length:Int) != (T.length:Int))=false:=by simp[h1]
      have H1:=lh h1;clear h1
      go_wp2_with fail
      refine (right02_any _ T _ (HROW.out.fresh HC3.out)).mono ?_;rintro e w4 ⟨rfl,hc4⟩;have HC4:=lh (HC3.out.t hc4);have HC43:=lh hc4;clear x0 x1 y0 y1 hsz tcell hc4;by_cases h2:T.Nodup
      ·rw[decide_eq_true h2]
       have H2:=lh h2;clear h2;go_wp2
       go_loopw [10] (fun c wi=>∃ i:Nat,i≤D.length∧c=.int .i64 i∧Hid (∀ d∈D.take i,d∈T)∧Chg [] w4 wi) (fun c _=>D.length - (intOf c).toNat)
       case atStart=>exact⟨0,Nat.zero_le _,rfl,lh (by simp),Chg.refl _ _⟩
       case round =>
        rename World=>wi;obtain⟨i,hi,rfl,hin,hc5⟩:=hrel;have HC5:=lh (HC4.out.t hc5);have HC45:=lh hc5;by_cases hil:i<D.length
        ·obtain⟨db,doff,rfl,hdc⟩:=IntsAt.cellAt (HOV.out.fresh (HC43.out.t hc5)) hil
         have tcell:=HC5.out.c HTC.out;have HTK:=lh (Plain.take_snoc hil);have HMEM:=lh ((show D.getD i 0∈D by simp[List.getD,hil]));obtain⟨z,hz⟩:∃ z,D.getD i 0=z:=⟨_,rfl⟩;rw[hz] at hdc HTK HMEM;clear hz hc5;go_wp2;have hS0:Chg [] wi wi.drew:=(Chg.refl [] wi).drew;refine wp_region_way (Chg [] wi) [0,1,2,3,4,5,6,7,9] (Way.line [0,1,2,3,4,5,6,7,8,9] .done) (by kernel_rfl) (by kernel_rfl) ?_;simp only[Way.line]
         repeat
          first
           | (refine along_off rfl (by rfl) (by rfl) (fun _ _ _ h=>h) hS0 ?_;simp only[Act.put,Z1,Z2,Z3,Z4,Z5,Z6])
           | (refine along_read (v:=?_) rfl (by rfl) (by rfl) (fun _ _ _ h=>h) hS0 (fun w' hS'=>?_) ?_;rotate_left;(focus (have rd0:=hS'.c tcell;have rd1:=hS'.c hdc;clear hS';go_simp;try with_reducible rfl));simp only[Act.put,Z1,Z2,Z3,Z4,Z5,Z6])
           | (refine along_skip rfl (by rfl) (by rfl) hS0 ?_;simp only[Act.put,Z1,Z2,Z3,Z4,Z5,Z6])
         refine along_op rfl (by rfl) (by rfl) (fun K hK=>?_);go_simp;refine (in_any _ T z _ (HROW.out.fresh (HC5.out.t hS0))).mono ?_;rintro e w6 ⟨rfl,hcx⟩;have hS1:=hS0.t hcx;clear hS0 hcx;have hS0:=hS1;clear hS1;refine hK.out _ _ (fun _=>hS0) ?_;clear hK K
         try simp only[Act.put,Z1,Z2,Z3,Z4,Z5,Z6]
         repeat
          first
           | (refine along_off rfl (by rfl) (by rfl) (fun _ _ _ h=>h) hS0 ?_;simp only[Act.put,Z1,Z2,Z3,Z4,Z5,Z6])
           | (refine along_read (v:=?_) rfl (by rfl) (by rfl) (fun _ _ _ h=>h) hS0 (fun w' hS'=>?_) ?_;rotate_left;(focus (have rd0:=hS'.c tcell;have rd1:=hS'.c hdc;clear hS';go_simp;try with_reducible rfl));simp only[Act.put,Z1,Z2,Z3,Z4,Z5,Z6])
           | (refine along_skip rfl (by rfl) (by rfl) hS0 ?_;simp only[Act.put,Z1,Z2,Z3,Z4,Z5,Z6])
         refine along_done ?_;have HC6:=lh (HC5.out.t hS0);have HC64:=lh ((show Chg [] w4 wi from HC45.out).t hS0);clear tcell hdc hS0;by_cases hzT:z∈T
         ·rw[decide_eq_true hzT]
          have HN:=lh (show ∀ d∈D.take (i+1),d∈T from fun d hd=>by
           rw[HTK.out,List.mem_append] at hd;rcases hd with q | q
           ·exact hin.out d q
           rw[List.mem_singleton.1 q];exact hzT)
          clear hzT;go_wp2
          go_roundw
          case rel=>exact⟨i+1,by omega,by go_num,HN,HC64.out⟩
          case measure=>simp[intOf];omega
         rw[decide_eq_false hzT];have HE:=lh (HBAD.out fun h=>hzT ((HRI.out.1 h).2.2 z HMEM.out));have HCF:=lh (HC1.out.t HC6.out);clear hzT;go_wp2;go_ret;exact⟨ret_int HE.out.symm,HCF.out⟩
        have e:i=D.length:=by omega
        subst e;have HN:=lh (show ∀ i,i<k+1→Plain.rowOk g p turn (i:Nat) from fun i hi=>by
         by_cases e:i=k
         ·rw[e]
          exact HRI.out.2 ⟨by have:=H1.out;omega,H2.out,by have:=hin.out;rwa[List.take_length] at this⟩
         exact hall.out i (by omega))
        clear hc5;go_wp2
        go_roundw
        case rel=>exact⟨k+1,by omega,by go_num,HN,HC5.out⟩
        case measure=>simp[intOf];omega
      rw[decide_eq_false h2];have HE:=lh (HBAD.out fun h=>h2 (HRI.out.1 h).2.1);have HCF:=lh (HC1.out.t HC4.out);clear h2;go_wp2;go_ret;exact⟨ret_int HE.out.symm,HCF.out⟩
     have b2:((D.length:Int) != (T.length:Int))=true:=by simp only[bne_iff_ne];exact h1
     have HE:=lh (HBAD.out fun h=>h1 (by have:=(HRI.out.1 h).1;omega));have HCF:=lh (HC1.out.t HC3.out);clear h1;go_wp2;go_ret;exact⟨ret_int HE.out.symm,HCF.out⟩
    have bk:decide ((k:Int)<g.n)=false:=decide_eq_false (by have:=HL.out;omega);have e:k=turn.length:=by omega
    subst e;have HE:=lh (Plain.turnErr_ok HPE.out (Plain.turns_of_rows HPO.out HL.out fun v hv=>hall.out v (by have:=HL.out;omega)));have HCF:=lh (HC1.out.t HC.out);go_wp2;go_ret;exact⟨ret_int HE.out.symm,HCF.out⟩
  have HE:=lh (Plain.turnErr_len (turn:=turn) HPE.out hl);have b1:((turn.length:Int) != g.n)=true:=by simp only[bne_iff_ne];exact hl
  have HCF:=lh (HC1.out.t HC2.out);clear hl;go_wp2;go_ret;exact⟨ret_int HE.out.symm,HCF.out⟩
 have HE:=lh (Plain.turnErr_part (turn:=turn) hpe);have b1:((p.err g) != 0)=true:=by simp only[bne_iff_ne];exact hpe
 have HCF:=lh (HC1.out.t HC2.out);clear hpe;generalize p.err g=er at *;go_wp2;go_ret;exact⟨ret_int HE.out.symm,HCF.out⟩
theorem twin_any (d:Nat) (w:World) (hd:d<4611686018427387904) :
  Calls Tryz.prog 134 #[.int .i64 d] w fun e w'=>e=.returned (.int .i64 (Plain.twin d))∧w'=w:=by
 rcases (show (∃ e,d=2*e)∨∃ e,d=2*e+1 from by rcases Nat.mod_two_eq_zero_or_one d with h | h;exact Or.inl ⟨d / 2,by omega⟩;exact Or.inr ⟨d / 2,by omega⟩) with ⟨e,rfl⟩ | ⟨e,rfl⟩
 ·obtain⟨q1,q2⟩:=quo_even e
  have HE:=lh (show Plain.twin ((2*e:Nat):Int)=((2*e:Nat):Int)+1 by unfold Plain.twin;rw[if_pos (by omega)]);have w1:IntKind.i64.wrap (((2*e:Nat):Int)+1)=((2*e:Nat):Int)+1:=IntWalk.i64_in _ (by omega);generalize ((2*e:Nat):Int)=dd at *
  go_enter Tryz.func134,Tryz.ntmps134
  go_wp2;go_ret;exact⟨ret_int HE.out.symm,rfl⟩
 obtain⟨q1,q2⟩:=quo_odd e;have HE:=lh (show Plain.twin ((2*e+1:Nat):Int)=((2*e+1:Nat):Int) - 1 by unfold Plain.twin;rw[if_neg (by omega)]);have w1:IntKind.i64.wrap (((2*e+1:Nat):Int) - 1)=((2*e+1:Nat):Int) - 1:=IntWalk.i64_in _ (by omega);generalize ((2*e+1:Nat):Int)=dd at *
 go_enter Tryz.func134,Tryz.ntmps134
 go_wp2;go_ret;exact⟨ret_int HE.out.symm,rfl⟩
set_option maxRecDepth 100000 in
set_option maxHeartbeats 2000000 in
theorem refStep_any (vg vt:Value) (g:Plain.Gr) (p:Plain.Pt) (turn:List (List Int)) (d:Nat) (w:World) (hd:(d:Int)∈p.darts) (hpe:p.err g=0) (hto:Plain.TurnsOk g p turn) (hrl:∀ v,(Plain.turnAt turn v).length<4294967296) (hg:GrAt w vg g) (ht:RowsAt w vt turn) :
  Calls Tryz.prog 133 #[vg,vt,.int .i64 d,.int .i64 (-1)] w fun e w'=>e=.returned (.int .i64 (Plain.before g turn d))∧Chg [] w w':=by
 have hpo:=Plain.Pt.ok_of_err hpe;have hge:=Plain.Gr.err_ok (Plain.Pt.err_ok hpe).1;have htl:=hpo.vr _ (hpo.tail_mem hd).1;have hde:=Plain.Pt.edge_in hpe (Plain.mem_darts.1 hd);have hd2:d / 2<g.e.length:=by omega
 have hglen:g.e.length<4294967296:=by omega
 have hin:=(hto.mem _ htl.1 htl.2 d).2 ⟨hd,rfl⟩;have hlen:=hto.len;have hbe:Plain.before g turn d=Plain.ahead (Plain.turnAt turn (g.tail d)) d:=rfl;have HG:=lh hg;have HT:=lh ht;obtain⟨tno,tc,rfl,htm,-⟩:=ht;obtain⟨tv,htv⟩:∃ tv:Nat,g.tail d=tv:=⟨(g.tail d).toNat,by omega⟩;rw[htv] at htl hin hbe;have htvl:tv<turn.length:=by omega
 obtain⟨tb,toff,uo,uc,rfl,tcell,hrow⟩:=HT.out.row htvl;have hta:Plain.turnAt turn (tv:Int)=turn.getD tv []:=by unfold Plain.turnAt;rw[Int.toNat_natCast]
 rw[hta] at hin hbe;have hTl:=hrl (tv:Int);rw[hta] at hTl;have HROW:=lh hrow;generalize turn.getD tv []=T at *;have hix:=List.idxOf_lt_length_iff.2 hin;have HFI:=lh (show Plain.findIx T d=(T.idxOf (d:Int):Nat) from if_pos hin);have hBE:=lh (show Plain.before g turn d=T.getD ((T.idxOf (d:Int)+T.length - 1) % T.length) 0 from hbe);generalize T.idxOf (d:Int)=ix at *;have w1:IntKind.i64.wrap ((ix:Int) + -1)=(ix:Int) + -1:=IntWalk.i64_in _ (by omega);have w2:IntKind.i64.wrap ((ix:Int) + -1+(T.length:Int))=((ix+T.length - 1:Nat):Int):=by rw[IntWalk.i64_in _ (by omega)];omega
 obtain⟨j,hj⟩:∃ j,(ix+T.length - 1) % T.length=j:=⟨_,rfl⟩;have w3:Int.tmod ((ix+T.length - 1:Nat):Int) (T.length:Int)=(j:Int):=by rw[Int.tmod_eq_emod_of_nonneg (by omega),←hj];omega
 have hjl:j<T.length:=by rw[←hj];exact Nat.mod_lt _ (by omega)
 have hl0:((T.length:Int)==0)=false:=by rw[beq_eq_false_iff_ne];omega
 rw[hj] at hBE;obtain⟨eo,cap,rfl,-,-,-,-⟩:=hg;have HC1:=lh ((Chg.refl [] w).alloc (.cells #[.int .i64 g.n,.slice eo g.e.length cap] 24));have tc1:=fun o=>cellNew tcell o;have HTV:=lh htv;clear hpo hge hin hlen hbe hta hrow htv hj hde hd hto hrl hpe
 go_enter Tryz.func133,Tryz.ntmps133
 go_wp2_with fail
 refine (tail_any _ g d _ hd2 hglen (HG.out.fresh HC1.out)).mono ?_;rintro e w2' ⟨rfl,hc2⟩;rw[HTV.out];have HC2:=lh (HC1.out.t hc2);have tcell2:=HC2.out.c tcell;clear hc2 tc1 tcell
 go_wp2_with fail
 refine (find02_any _ T (d:Int) _ (HROW.out.fresh HC2.out)).mono ?_;rintro e w3' ⟨rfl,hc3⟩;rw[HFI.out];obtain⟨rb,roff,rfl,hrc⟩:=IntsAt.cellAt HROW.out hjl;have HC3:=lh (HC2.out.t hc3);have c3:=HC3.out.c hrc;clear hc3 hrc tcell2;go_wp2;go_ret;exact⟨ret_int (by rw[hBE.out];simp[List.getD,hjl]),HC3.out⟩
set_option maxRecDepth 100000 in
theorem refNext_any (vg vt:Value) (g:Plain.Gr) (p:Plain.Pt) (turn:List (List Int)) (d:Nat) (w:World) (hd:(d:Int)∈p.darts) (hpe:p.err g=0) (hto:Plain.TurnsOk g p turn) (hrl:∀ v,(Plain.turnAt turn v).length<4294967296) (hg:GrAt w vg g) (ht:RowsAt w vt turn) :
  Calls Tryz.prog 73 #[vg,vt,.int .i64 d] w fun e w'=>e=.returned (.int .i64 (Plain.nextDart g turn d))∧Chg [] w w':=by
 have hpo:=Plain.Pt.ok_of_err hpe;have hge:=Plain.Gr.err_ok (Plain.Pt.err_ok hpe).1;have hde:=Plain.Pt.edge_in hpe (Plain.mem_darts.1 hd);have hdb:d<4611686018427387904:=by omega
 have htw:=Plain.twin_mem hd;have hte:=Plain.Pt.edge_in hpe (Plain.mem_darts.1 htw);obtain⟨td,htd⟩:∃ td:Nat,Plain.twin d=td:=⟨(Plain.twin d).toNat,by omega⟩;have HND:=lh (show Plain.nextDart g turn d=Plain.before g turn td by unfold Plain.nextDart;rw[htd]);have HG:=lh hg;have HT:=lh ht;rw[htd] at htw;have HTD:=lh htd;have HTW:=lh htw;have HTO:=lh hto;have HPE:=lh hpe;have HRL:=lh hrl;obtain⟨eo,cap,rfl,-,-,-,-⟩:=hg;obtain⟨tno,tc,rfl,htm,-⟩:=ht;have hb:=heap_alloc_new w (.cells #[.int .i64 g.n,.slice eo g.e.length cap] 24);have x0:=(cell_of_row _ _ 0 _ _ _ hb).trans (show _=some (Value.int .i64 g.n) from rfl);have x1:=(cell_of_row _ _ 1 _ _ _ hb).trans (show _=some (Value.slice eo g.e.length cap) from rfl);have HC1:=lh ((Chg.refl [] w).alloc (.cells #[.int .i64 g.n,.slice eo g.e.length cap] 24));clear hpo hge hde hte htw htd hto hpe hrl hb
 go_enter Tryz.func73,Tryz.ntmps73
 go_wp2;generalize (w.alloc (.cells #[.int .i64 g.n,.slice eo g.e.length cap] 24))=w1 at *;have hS0:Chg [] w1 w1.drew:=(Chg.refl [] w1).drew;refine wp_region_way (Chg [] w1) [0,1,2] (Way.line [0,1,2,3,4,5] .done) (by kernel_rfl) (by kernel_rfl) ?_;simp only[Way.line]
 repeat
  first
   | (refine along_off rfl (by rfl) (by rfl) (fun _ _ _ h=>h) hS0 ?_;simp only[Act.put,Z1,Z2,Z3,Z4,Z5,Z6])
   | (refine along_read (v:=?_) rfl (by rfl) (by rfl) (fun _ _ _ h=>h) hS0 (fun w' hS'=>?_) ?_;rotate_left;(focus (have rd0:=hS'.c x0;have rd1:=hS'.c x1;clear hS';go_simp;try with_reducible rfl));simp only[Act.put,Z1,Z2,Z3,Z4,Z5,Z6])
   | (refine along_skip rfl (by rfl) (by rfl) hS0 ?_;simp only[Act.put,Z1,Z2,Z3,Z4,Z5,Z6])
 refine along_op rfl (by rfl) (by rfl) (fun K hK=>?_);go_simp;refine (twin_any d _ hdb).mono ?_;rintro e w2 ⟨rfl,rfl⟩;refine hK.out _ _ (fun _=>hS0) ?_;clear hK K;rw[HTD.out]
 try simp only[Act.put,Z1,Z2,Z3,Z4,Z5,Z6]
 refine along_op rfl (by rfl) (by rfl) (fun K hK=>?_);go_simp;refine (refStep_any _ _ g p turn td _ HTW.out HPE.out HTO.out HRL.out ((HG.out.fresh HC1.out).fresh hS0) ((HT.out.fresh HC1.out).fresh hS0)).mono ?_;rintro e w3 ⟨rfl,hcx⟩;have hS1:=hS0.t hcx;clear hS0 hcx;have hS0:=hS1;clear hS1;refine hK.out _ _ (fun _=>hS0) ?_;clear hK K
 try simp only[Act.put,Z1,Z2,Z3,Z4,Z5,Z6]
 refine along_op rfl (by rfl) (by rfl) (fun K hK=>?_);go_simp;refine hK.out _ _ (fun _=>hS0) ?_;clear hK K
 try simp only[Act.put,Z1,Z2,Z3,Z4,Z5,Z6]
 refine along_done ?_;have HCF:=lh (HC1.out.t hS0);clear x0 x1 hS0;go_wp2;go_ret;exact⟨ret_int HND.out.symm,HCF.out⟩
end Go.Proofs.YtmhcmnaecpagiaaGreat
