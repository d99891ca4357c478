/- ref07: the contract of Walks. Conditions: a right part, right turns that lie in memory and read so, of a bounded size. -/
import Derived.Test.YtmhcmnaecpagiaaGreatZTurnP
namespace Go.Proofs.YtmhcmnaecpagiaaGreat
open Go.RowKit Go.Maps
theorem elemRWalk:Elem 50 108 (.agg #[.int .i64 0,.slice none 0 0]) 2 32:=⟨Tryz.underlying50,by kernel_rfl,rfl,by decide,by decide⟩
theorem wl_walk {ops:Array Oper} {rest:List Oper} {o:Oper} {a:Act} {Q:Exit→Act→World→Prop} {w w0:World} (hg:o.guard=none) (s x:Operand) (ho:o.op=.call { callee:=.builtin .append,args:=#[s,x],argTypes:=#[50,50] })
  {B T:Nat} {ov v:Value} {F:List Plain.Face} {xs:List Value} {k:Int} {l:List Int} (hs:a.eval s=ov) (hx:a.eval x=.slice (some ⟨w0.heap.size,0,none⟩) 1 1) (h:Nest w0 B 108 2 ov F.length xs (faceCells F)) (hB:B≤w0.heap.size) (hv:RowAt w0 B v l)
  (hT:∀ j∈foot v,T≤j) (hX:∀ k b,k<xs.length→(xs.getD k undef).ownBlock=some b→b<T) (hn:F.length<1000000000) (hw:w=w0.alloc (.cells #[.int .i64 k,v] 108))
  (hK:∀ ov' w',Nest w' B 108 2 ov' (F++[(k,l)]).length (xs++[.int .i64 k,v]) (faceCells (F++[(k,l)]))→Chg ov.ownBlock.toList w0 w'→wpList Tryz.prog ops Q rest (a.put o.dst ov') w'):wpList Tryz.prog ops Q (o :: rest) a w:=by
 subst hw;refine wp_app elemRWalk hg s x ho hs hx rfl h.out hB (cs:=#[.int .i64 k,v]) rfl (by
  intro u hu;simp at hu;rcases hu with rfl | rfl
  ·rfl
  obtain⟨a',c',e⟩:=hv.shape;rw[e];rfl) (by omega) fun g cap w' r2 r3 _=>?_
 refine hK _ w' ?_ r3;have hlen:(F++[(k,l)]).length=F.length+1:=by simp
 rw[faceCells_snoc,hlen];exact h.add (w':=w') (g:=g) (cap:=cap) (us:=[.int .i64 k,v]) (ds:=[.num k,.row l]) (by decide) rfl rfl (fun i d hi=>by
   rcases i with _ | _ | i
   ·simp at hi;subst hi;rfl
   ·simp at hi;subst hi;exact hv
   ·simp at hi) (fun i j hi hj hne=>by
   simp at hi hj;rcases i with _ | _ | i
   ·exact Or.inl rfl
   ·rcases j with _ | _ | j
    ·cases hq:([Value.int .i64 k,v].getD 1 undef).ownBlock with
     | none=>exact Or.inl rfl
     | some b=>exact Or.inr (by simp[Value.ownBlock])
    ·omega
    omega
   ·omega) (fun i j b hi hj hb e=>by
   simp at hj;have:=hX i b hi hb;rcases j with _ | _ | j
   ·simp[Value.ownBlock] at e
   ·have e':v.ownBlock=some b:=e
    have:=hT b (by rw[hv.foot,e'];simp);omega
   omega) r2 r3
def sliceLen:Value→Nat
 | .slice _ n _=>n
 | _=>0
set_option maxRecDepth 100000 in
set_option maxHeartbeats 8000000 in
theorem refWalks_any (vg vp vt:Value) (g:Plain.Gr) (p:Plain.Pt) (turn:List (List Int)) (w:World) (hpl:p.e.length≤1000000) (hpv:p.v.length≤1000000) (hpe:p.err g=0) (hto:Plain.TurnsOk g p turn) (hrl:∀ v,(Plain.turnAt turn v).length<4294967296) (hg:GrAt w vg g) (hp:PtAt w vp p) (ht:RowsAt w vt turn) :
  Calls Tryz.prog 27 #[vg,vp,vt] w fun e w'=>∃ ov xs,e=.returned ov∧Nest w' w.heap.size 108 2 ov (Plain.walksOf g p turn).length xs (faceCells (Plain.walksOf g p turn))∧Chg [] w w':=by
 have HT:=lh ht;have HPE:=lh hpe;have HTO:=lh hto;have HRL:=lh hrl;have HPO:=lh (Plain.Pt.ok_of_err hpe);have HGE:=lh (Plain.Gr.err_ok (Plain.Pt.err_ok hpe).1);have HWK:=lh (Plain.mins_walks hpe hto);have HDN:=lh (fun d (hd:d∈p.darts)=>Plain.Pt.dart_nat hpe hd);have HDL:=lh (Plain.darts_length p);clear hpe hto hrl;have HG:=lh hg;have HP:=lh hp;obtain⟨eo,cap,rfl,hn,hm,hsm,hcell⟩:=hg;obtain⟨v1,v2,rfl,hv,he⟩:=hp;obtain⟨ao,ac,rfl,has,ham,hacell⟩:=hv;obtain⟨bo,bc,rfl,hbs,hbm,hbcell⟩:=he;have HAC:=lh hacell;have HBC:=lh hbcell;have HAS:=lh has;have HBS:=lh hbs;obtain⟨-,-,hc1⟩:=box_two w #[.int .i64 g.n,.slice eo g.e.length cap] #[.slice ao p.v.length ac,.slice bo p.e.length bc] 24 27;have HC1:=lh hc1;have HBXS:=lh (fun w2 h=>two_boxes w (g:=g) (p:=p) (eo:=eo) (ao:=ao) (bo:=bo) (cap:=cap) (ac:=ac) (bc:=bc) (w2:=w2) h);clear hcell hacell hbcell hsm has hbs hn hc1;obtain⟨tno,tc,rfl,htm,-⟩:=ht;obtain⟨x0,x1,y0,y1,hsz⟩:=HBXS.out _ (Chg.refl _ _)
 go_enter Tryz.func27,Tryz.ntmps27
 go_wp2;obtain⟨w1,hw1⟩:∃ w1,((w.alloc (.cells #[.int .i64 g.n,.slice eo g.e.length cap] 24)).alloc (.cells #[.slice ao p.v.length ac,.slice bo p.e.length bc] 27))=w1:=⟨_,rfl⟩;rw[hw1] at HC1 HBXS ⊢;clear hw1 x0 x1 y0 y1 hsz;have HT1:=lh (HT.out.fresh HC1.out);have HB1:=lh HC1.out.size
 go_loopw [7,8] (fun ov c wr=>∃ (k:Nat) (xs:List Value),k≤p.v.length∧c=.int .i64 ((k:Int) - 1)∧Nest wr w1.heap.size 108 2 ov (Plain.loneAt turn (p.v.drop k)).length xs (faceCells (Plain.loneAt turn (p.v.drop k)))∧Chg [] w1 wr) (fun _ c _=>(intOf c+1).toNat)
 case atStart=>exact⟨p.v.length,[],Nat.le_refl _,by go_num,by rw[List.drop_length];exact Nest.nil _ _ _ _,Chg.refl _ _⟩
 case round =>
  obtain⟨k,xs,hk,rfl,hnest,hc⟩:=hrel;have HN:=lh hnest;have HC:=lh hc;obtain⟨oo,oc,rfl⟩:=hnest.shape;obtain⟨x0,x1,y0,y1,hsz⟩:=HBXS.out wr hc;clear hnest hc;by_cases h0:0<k
  ·obtain⟨j,rfl⟩:∃ j,k=j+1:=⟨k - 1,by omega⟩
   obtain⟨ab,aoff,rfl,hca⟩:=HAC.out (by intro e;rw[e] at hk;simp at hk);have hcj:=HC.out.c (HC1.out.c (hca j hk));rw[show (((j+1:Nat):Int) - 1)=(j:Int) by omega];have hjl:j<p.v.length:=by omega
   have hvr:=HPO.out.vr (p.v.getD j 0) (by simp[List.getD,hjl]);obtain⟨v,hve⟩:∃ v:Nat,p.v.getD j 0=(v:Int):=⟨(p.v.getD j 0).toNat,by omega⟩;have HDR:=lh (show Plain.loneAt turn (p.v.drop j)=Plain.loneAt turn (p.v.drop (j+1))++(if (turn.getD v []).isEmpty then [(-1 - (v:Int),[])] else []) by
    rw[List.drop_eq_getElem_cons hjl,Plain.loneAt_step];have e1:p.v[j]=(v:Int):=by rw[←hve];simp[List.getD,hjl]
    rw[e1];unfold Plain.turnAt;simp)
   have hvT:v<turn.length:=by have:=HTO.out.len;omega
   have hvg:(v:Int)≤1024:=by have:=HGE.out.2.1;omega
   rw[hve] at hcj;obtain⟨tb,toff,uo,uc,rfl,hu,-⟩:=HT1.out.row hvT;have hcu:=HC.out.c hu;have hfl:(Plain.loneAt turn (p.v.drop (j+1))).length≤p.v.length:=by
    unfold Plain.loneAt;rw[List.length_map];refine Nat.le_trans (List.length_filter_le _ _) ?_;rw[List.length_reverse,List.length_drop];omega
   have w1e:IntKind.i64.wrap (-1 - (v:Int)) = -1 - (v:Int):=IntWalk.i64_in _ (by omega);obtain⟨F,hF⟩:∃ F,Plain.loneAt turn (p.v.drop (j+1))=F:=⟨_,rfl⟩;rw[hF] at HN HDR hfl ⊢;obtain⟨l,hlk⟩:∃ l,turn.getD v []=l:=⟨_,rfl⟩;rw[hlk] at hcu HDR;clear hca hvr hve hu hlk h0 hF;cases l with
   | nil =>
    have HNB:=lh (HC.out.size);have HNX:=lh (fun k b (hk:k<xs.length) (hb:(xs.getD k undef).ownBlock=some b)=>(HN.out.kind hk hb).2.1);have hfl2:F.length<1000000000:=by omega
    go_wp2_with (at_builtin;refine wl_walk rfl _ _ rfl (T:=wr.heap.size) (ov:=.slice oo _ oc) rfl rfl HN.out HNB.out (rowNil' _ _) (by simp[foot,Value.ownBlock]) HNX.out hfl2 rfl ?_;intro v6 w6 r6 c6;have R6:=lh r6;have C6:=lh c6;clear r6 c6)
    go_roundw
    case rel=>exact⟨j,_,by omega,rfl,by rw[HDR.out];exact R6.out,HC.out.trans C6.out (fun j hj=>Or.inr (HN.out.out.lt j (by simpa using hj)).1)⟩
    case measure=>simp[intOf]
   | cons d0 l0 =>
    have b0:(((d0 :: l0).length:Int)==0)=false:=by rw[beq_eq_false_iff_ne];simp;omega
    go_wp2
    go_roundw
    case rel=>exact⟨j,xs,by omega,rfl,by rw[HDR.out];simpa using HN.out,HC.out⟩
    case measure=>simp[intOf]
  have e:k=0:=by omega
  subst e;rw[List.drop_zero] at HN ⊢;have hwl:∀ i,(Plain.loneAt turn p.v++Plain.minsTo g p turn i).length≤p.v.length+i:=fun i=>by
   rw[List.length_append];have:=Plain.minsTo_len g p turn i;unfold Plain.loneAt;rw[List.length_map];have h2:=List.length_filter_le (fun v=>(Plain.turnAt turn v).isEmpty) p.v.reverse;rw[List.length_reverse] at h2;omega
  have HWL:=lh hwl;have HN0:=lh (show Plain.loneAt turn p.v++Plain.minsTo g p turn 0=Plain.loneAt turn p.v by rw[Plain.minsTo_zero,List.append_nil]);clear hwl x0 x1 y0 y1 hsz h0;obtain⟨x0,x1,y0,y1,hsz⟩:=HBXS.out wr HC.out;rw[show (((0:Nat):Int) - 1) = -1 by omega];go_wp2
  go_loopw [7,9] (fun ov c wi=>∃ (i:Nat) (ys:List Value),i≤2*p.e.length∧c=.int .i64 i∧Nest wi w1.heap.size 108 2 ov (Plain.loneAt turn p.v++Plain.minsTo g p turn i).length ys (faceCells (Plain.loneAt turn p.v++Plain.minsTo g p turn i))∧Chg [] w1 wi) (fun _ c _=>2*p.e.length - (intOf c).toNat)
  case atStart=>exact⟨0,xs,Nat.zero_le _,rfl,by rw[HN0.out];exact HN.out,HC.out⟩
  case round =>
   clear HC HN x0 x1 y0 y1 hsz;rename World=>wi;obtain⟨i,ys,hi,rfl,hnest,hc⟩:=hrel;have HN:=lh hnest;have HC:=lh hc;obtain⟨oo,oc,rfl⟩:=hnest.shape;obtain⟨x0,x1,y0,y1,hsz⟩:=HBXS.out wi hc;have w2l:IntKind.i64.wrap (2*(p.e.length:Int))=2*(p.e.length:Int):=IntWalk.i64_in _ (by omega);clear hnest hc;by_cases hil:i<2*p.e.length
   ·have hil2:i / 2<p.e.length:=by omega
    obtain⟨bb,boff,rfl,hbc⟩:=HBC.out (by intro e;rw[e] at hil;simp at hil);have hcb:=HC.out.c (HC1.out.c (hbc (i / 2) hil2));have hdi:=Plain.darts_getD hil2 (i % 2) (by omega);rw[show 2*(i / 2)+i % 2=i by omega] at hdi;have hdm:p.darts.getD i 0∈p.darts:=by have:=HDL.out;simp[List.getD,show i<p.darts.length by omega]
    obtain⟨d,hd,hd2,hd3⟩:=HDN.out _ hdm;have HMS:=lh (Plain.minsTo_succ (g:=g) (p:=p) (turn:=turn) (k:=i) (by rw[HDL.out];exact hil));have HCY:=lh (Plain.cycOf_ok HPO.out HTO.out hdm);have HMA:=lh (show Plain.minAt g p turn (p.darts.getD i 0)=(Plain.cycOf g p turn (p.darts.getD i 0)).all fun x=>decide (p.darts.getD i 0<x) from rfl);have HDM:=lh hdm;rw[hd] at hdi HMS HCY HMA HDM;obtain⟨L,hL⟩:∃ L,Plain.cycOf g p turn (d:Int)=L:=⟨_,rfl⟩;rw[hL] at HMS HCY HMA;have hLl:L.length≤2*p.e.length:=by
     have h1:=Plain.len_le_of_sub HCY.out.nodup (m:=p.darts) HCY.out.sub;have:=HDL.out;simp at h1;omega
    obtain⟨ev,hev⟩:∃ ev:Nat,p.e.getD (i / 2) 0=ev:=by
     refine⟨d / 2,?_⟩;omega
    rw[hev] at hcb hdi;have q1:Int.tdiv (i:Int) 2=((i / 2:Nat):Int):=by rw[Int.tdiv_eq_ediv_of_nonneg (by omega)];omega
    have q2:Int.tmod (i:Int) 2=(i:Int) % 2:=by rw[Int.tmod_eq_emod_of_nonneg (by omega)]
    have q3:IntKind.i64.wrap (2*(ev:Int))=2*(ev:Int):=IntWalk.i64_in _ (by omega);have q4:IntKind.i64.wrap (2*(ev:Int)+(i:Int) % 2)=(d:Int):=by rw[IntWalk.i64_in _ (by omega)];omega
    have hWL:=HWL.out i;obtain⟨G,hG⟩:∃ G,Plain.loneAt turn p.v++Plain.minsTo g p turn i=G:=⟨_,rfl⟩;have HGN:=lh (show Plain.loneAt turn p.v++Plain.minsTo g p turn (i+1)=G++(if Plain.minAt g p turn d then [((d:Int),(d:Int) :: L)] else []) by rw[HMS.out,←List.append_assoc,hG]);rw[hG] at HN hWL ⊢;have HID:=lh (show I64 (d:Int) from I64.mk (by omega) (by omega));have HX0:=lh (fun wx (hx:Chg [] wi wx)=>HBXS.out wx (HC.out.t hx));have hND0:=Plain.ring_at HCY.out.ring (Nat.zero_le _);have hND1:Plain.nextDart g turn d=(L++[(d:Int)]).getD 0 0:=hND0;obtain⟨nd,hnd⟩:∃ nd,(L++[(d:Int)]).getD 0 0=nd:=⟨_,rfl⟩;rw[hnd] at hND1;have HND:=lh hND1;have HNDE:=lh hnd;clear hND1 hnd;have x0n:=fun o=>cellNew x0 o;have x1n:=fun o=>cellNew x1 o;clear hbc hdm hL hev hG hd hND0 hdi
    go_wp2_with fail
    have hLT:=(Chg.refl [] wi).alloc (.cells #[.int .i64 (d:Int)] 3);have HLT:=lh hLT;have HLR:=lh (row_lit1 (w:=wi) (B:=wi.heap.size) (Nat.le_refl _) HID.out);refine (refNext_any _ _ g p turn d _ HDM.out HPE.out HTO.out HRL.out ((HG.out.fresh HC1.out).fresh (HC.out.t hLT)) (HT1.out.fresh (HC.out.t hLT))).mono ?_;rintro e w3 ⟨rfl,hc3⟩;have HC3:=lh (HLT.out.t hc3);have HR3:=lh (HLR.out.chg hc3 (by simp));rw[HND.out];clear hLT hc3 x0 x1 y0 y1 hsz hcb x0n x1n;go_wp2
    go_loopw [11,12,13] (fun lv bv xv wx=>∃ j:Nat,j≤L.length∧RowAt wx wi.heap.size lv ((d:Int) :: L.take j)∧bv=.bool ((L.take j).all fun x=>decide ((d:Int)<x))∧xv=.int .i64 ((L++[(d:Int)]).getD j 0)∧Chg [] wi wx) (fun lv _ _ _=>L.length+2 - sliceLen lv)
    case atStart=>exact⟨0,Nat.zero_le _,by simpa using HR3.out,by simp,by rw[HNDE.out],HC3.out⟩
    case round =>
     rename World=>wx;obtain⟨j,hj,hrow,rfl,rfl,hcx⟩:=hrel;have HROW:=lh hrow;obtain⟨lo,lc,rfl⟩:=hrow.shape;have HCX:=lh hcx;obtain⟨x0,x1,y0,y1,hsz⟩:=HX0.out _ hcx;clear hrow hcx;by_cases hjl:j<L.length
     ·have hge:(L++[(d:Int)]).getD j 0=L.getD j 0:=by simp[List.getD,List.getElem?_append_left hjl]
      have hzm:L.getD j 0∈L:=by simp[List.getD,hjl]
      have hne:L.getD j 0≠(d:Int):=fun e=>(List.nodup_cons.1 HCY.out.nodup).1 (e ▸ hzm);have hzd:=HCY.out.sub _ (List.mem_cons_of_mem _ hzm);have hnx:=Plain.ring_at HCY.out.ring (k:=j+1) (by omega);rw[show ((d:Int) :: L).getD (j+1) 0=L.getD j 0 from rfl] at hnx;have HTK:=lh (Plain.take_snoc hjl);rw[hge];obtain⟨z,hz,-,hz3⟩:=HDN.out _ hzd;rw[hz] at hne hzd hnx HTK ⊢;have HZD:=lh hzd;obtain⟨nx,hnxe⟩:∃ nx,(L++[(d:Int)]).getD (j+1) 0=nx:=⟨_,rfl⟩;rw[hnxe] at hnx;have HNX:=lh hnx;have HNXE:=lh hnxe;clear hnxe;have b1:((z:Int) != (d:Int))=true:=by simp only[bne_iff_ne];exact hne
      have HIZ:=lh (show I64 (z:Int) from I64.mk (by omega) (by omega));have hlen:((d:Int) :: L.take j).length<4294967290:=by simp;omega
      have HBX:=lh HCX.out.size;have hsl:((d:Int) :: L.take j).length=j+1:=by simp;omega
      have HALL:=lh (show ((L.take (j+1)).all fun x=>decide ((d:Int)<x))=(((L.take j).all fun x=>decide ((d:Int)<x))&&decide ((d:Int)<(z:Int))) by rw[HTK.out,List.all_append];simp);clear hge hzm hne hzd hnx hz;cases hb:(L.take j).all fun x=>decide ((d:Int)<x) with
      | true =>
       rw[hb] at HALL;clear hb
       go_wp2_with (first | (at_builtin;refine wl_push rfl _ _ rfl (B:=wi.heap.size) (v:=.slice lo _ lc) rfl rfl HROW.out HIZ.out HBX.out hlen rfl ?_;intro v6 w6 r6 c6 f6;have R6:=lh r6;have HC6:=lh (HCX.out.trans c6 (fun j hj=>Or.inr (by rw[HROW.out.foot] at hj;exact (HROW.out.low j hj).1)));clear r6 c6 f6;clear x0 x1 y0 y1 hsz;obtain⟨x0,x1,y0,y1,hsz⟩:=HX0.out _ HC6.out) | fail)
       refine (refNext_any _ _ g p turn z _ HZD.out HPE.out HTO.out HRL.out ((HG.out.fresh HC1.out).fresh (HC.out.t HC6.out)) (HT1.out.fresh (HC.out.t HC6.out))).mono ?_;rintro e w7 ⟨rfl,hc7⟩;rw[HNX.out];have HC7:=lh (HC6.out.t hc7);have HR7:=lh (R6.out.chg hc7 (by simp));clear hc7 x0 x1 y0 y1 hsz;obtain⟨v6o,v6c,rfl⟩:=R6.out.shape;obtain⟨n6,hn6⟩:∃ n6,((d:Int) :: L.take j++[(z:Int)]).length=n6:=⟨_,rfl⟩;have HN6:=lh (show n6=j+2 by rw[←hn6];simp;omega);rw[hn6] at HR7 ⊢;clear hn6;go_wp2
       go_roundw
       case rel=>exact⟨j+1,by omega,by rw[HTK.out];exact HR7.out,by rw[HALL.out];simp,by rw[HNXE.out],HC7.out⟩
       case measure=>have:=HN6.out;simp[sliceLen];omega
      | false =>
       rw[hb] at HALL;clear hb
       go_wp2_with (first | (at_builtin;refine wl_push rfl _ _ rfl (B:=wi.heap.size) (v:=.slice lo _ lc) rfl rfl HROW.out HIZ.out HBX.out hlen rfl ?_;intro v6 w6 r6 c6 f6;have R6:=lh r6;have HC6:=lh (HCX.out.trans c6 (fun j hj=>Or.inr (by rw[HROW.out.foot] at hj;exact (HROW.out.low j hj).1)));clear r6 c6 f6;clear x0 x1 y0 y1 hsz;obtain⟨x0,x1,y0,y1,hsz⟩:=HX0.out _ HC6.out) | fail)
       refine (refNext_any _ _ g p turn z _ HZD.out HPE.out HTO.out HRL.out ((HG.out.fresh HC1.out).fresh (HC.out.t HC6.out)) (HT1.out.fresh (HC.out.t HC6.out))).mono ?_;rintro e w7 ⟨rfl,hc7⟩;rw[HNX.out];have HC7:=lh (HC6.out.t hc7);have HR7:=lh (R6.out.chg hc7 (by simp));clear hc7 x0 x1 y0 y1 hsz;obtain⟨v6o,v6c,rfl⟩:=R6.out.shape;obtain⟨n6,hn6⟩:∃ n6,((d:Int) :: L.take j++[(z:Int)]).length=n6:=⟨_,rfl⟩;have HN6:=lh (show n6=j+2 by rw[←hn6];simp;omega);rw[hn6] at HR7 ⊢;clear hn6;go_wp2
       go_roundw
       case rel=>exact⟨j+1,by omega,by rw[HTK.out];exact HR7.out,by rw[HALL.out];simp,by rw[HNXE.out],HC7.out⟩
       case measure=>have:=HN6.out;simp[sliceLen];omega
     have e:j=L.length:=by omega
     subst e;have hge:(L++[(d:Int)]).getD L.length 0=(d:Int):=by simp[List.getD]
     rw[hge];rw[List.take_length] at HROW ⊢;have HMA2:=lh (show (L.all fun x=>decide ((d:Int)<x))=Plain.minAt g p turn d from HMA.out.symm);have b1:((d:Int) != (d:Int))=false:=by simp
     have HCW:=lh (HC.out.t HCX.out);have HNW:=lh (HN.out.chg HCX.out (by simp) (by simp));have HBW:=lh HCW.out.size;have HNK:=lh (fun k b (hk:k<ys.length) (hb:(ys.getD k undef).ownBlock=some b)=>(HN.out.kind hk hb).2.1);have HRT:=lh (fun j (hj:j∈foot (Value.slice lo ((d:Int) :: L).length lc))=>(show wi.heap.size≤j by rw[HROW.out.foot] at hj;exact (HROW.out.low j hj).1));have HRB:=lh (HROW.out.base (show w1.heap.size≤wi.heap.size from HC.out.size));have hGl:G.length<1000000000:=by omega
     clear hge hjl;cases hb:L.all fun x=>decide ((d:Int)<x) with
     | true =>
      rw[hb] at HMA2;have HGE2:=lh (HGN.out.trans (by rw[←HMA2.out,if_pos rfl]));clear hb
      go_wp2_with (at_builtin;refine wl_walk rfl _ _ rfl (T:=wi.heap.size) (ov:=.slice oo _ oc) rfl rfl HNW.out HBW.out HRB.out HRT.out HNK.out hGl rfl ?_;intro v6 w6 r6 c6;have R6:=lh r6;have C6:=lh c6;clear r6 c6)
      go_roundw
      case rel=>exact⟨i+1,_,by omega,by go_num,by rw[HGE2.out];exact R6.out,HCW.out.trans C6.out (fun j hj=>Or.inr (HNW.out.out.lt j (by simpa using hj)).1)⟩
      case measure=>simp[intOf];omega
     | false =>
      rw[hb] at HMA2;have HGE2:=lh (HGN.out.trans (by rw[←HMA2.out,if_neg (by simp),List.append_nil]));clear hb;go_wp2
      go_roundw
      case rel=>exact⟨i+1,_,by omega,by go_num,by rw[HGE2.out];exact HNW.out,HCW.out⟩
      case measure=>simp[intOf];omega
   have e:i=2*p.e.length:=by omega
   subst e;have HW2:Plain.loneAt turn p.v++Plain.minsTo g p turn (2*p.e.length)=Plain.walksOf g p turn:=by rw[←HDL.out];exact HWK.out
   rw[HW2] at HN ⊢;clear HW2;have HCF:=lh (HC1.out.t HC.out);have HNF:=lh (HN.out.base HB1.out);obtain⟨rn,hrn⟩:∃ rn,(Plain.walksOf g p turn).length=rn:=⟨_,rfl⟩;have HRN:=lh hrn;rw[hrn] at HNF ⊢;clear hrn;go_wp2;go_ret;exact⟨_,_,rfl,by rw[HRN.out];exact HNF.out,HCF.out⟩
end Go.Proofs.YtmhcmnaecpagiaaGreat
namespace Go.Proofs.YtmhcmnaecpagiaaGreat
namespace Plain
structure Parted (g:Gr) (p:Pt) (turn same:List (List Int)):Prop where
 part:p.err g=0
 turns:TurnsOk g p turn
 flat:Flat g p turn
 walks:WalksOk g p turn (walksOf g p turn)
 two:∀ l∈same,2≤l.length
 nodup:same.flatten.Nodup
 keys:∀ x∈same.flatten,x∈(walksOf g p turn).map (·.1)
 rise:∀ l∈same,l.Pairwise (·<·)
 many:same.flatten.length+1≤(roots g p).length+same.length∨(roots g p).length=0
noncomputable def allRegs (g:Gr) (p:Pt) (turn same:List (List Int)):List (List Int):=same++singles (walksOf g p turn) same.flatten
structure IsRegs (g:Gr) (p:Pt) (turn same ll:List (List Int)):Prop where
 perm:ll.Perm (allRegs g p turn same)
 order:ll.Pairwise fun a b=>a.getD 0 0≤b.getD 0 0
theorem one_list {ll:List (List Int)} (hn:ll.flatten.Nodup) {l m:List Int} {x:Int} (hl:l∈ll) (hm:m∈ll) (h1:x∈l) (h2:x∈m):l=m:=by
 induction ll with
 | nil=>simp at hl
 | cons a ll ih =>
  rw[List.flatten_cons,List.nodup_append] at hn;rcases List.mem_cons.1 hl with q | q
  ·rcases List.mem_cons.1 hm with r | r
   ·rw[q,r]
   subst q;exact absurd rfl (hn.2.2 x h1 x (List.mem_flatten.2 ⟨m,r,h2⟩))
  rcases List.mem_cons.1 hm with r | r
  ·subst r
   exact absurd rfl (hn.2.2 x h2 x (List.mem_flatten.2 ⟨l,q,h1⟩))
  exact ih hn.2.1 q r
end Plain
end Go.Proofs.YtmhcmnaecpagiaaGreat
namespace Go.Proofs.YtmhcmnaecpagiaaGreat
open Go.RowKit Go.Maps
theorem contains_any (v:Value) (l:List Int) (x:Int) (w:World) (h:IntsAt w v l) :
  Calls Tryz.prog 158 #[v,.int .i64 x] w fun e w'=>e=.returned (.bool (decide (x∈l)))∧w'=w:=by
 obtain⟨ao,cap,rfl,-,hm,hc⟩:=h;cases l with
 | nil =>
  refine (Tryz.slices_Contains_int_empty ao cap x w).mono ?_;rintro e w' ⟨rfl,rfl⟩;exact⟨ret_bool (by simp),rfl⟩
 | cons y r =>
  obtain⟨b,off,rfl,hc2⟩:=hc (by simp);refine (Tryz.slices_Contains_int b off (y :: r).length cap (y :: r) x w (Nat.le_refl _) hm hc2).mono ?_;rintro e w' ⟨rfl,rfl⟩;exact⟨ret_bool (by rw[List.take_length];simp),rfl⟩
theorem RowsOwn.read {w:World} {B:Nat} {ov:Value} {vs:List Value} {ll:List (List Int)} (h:RowsOwn w B ov vs ll) (hi:∀ l∈ll,(∀ x∈l,I64 x)∧l.length<4294967296):RowsAt w ov ll:=by
 have hlen:=h.len;have hcap:∀ {v:Value} {n:Nat} {xs:List Value} {e:TypeId},w.ownsRow B e 1 v n xs→CapOk v:=by
  intro v n xs e ho;rcases ho.2 with ⟨rfl,_⟩ | ⟨g,cap,cur,rfl,-,-,hn,hc,-,-⟩
  ·exact⟨none,0,0,rfl,by decide,by decide⟩
  exact⟨_,_,_,rfl,hn,by unfold maxLen at hc;omega⟩
 rcases h.out.2 with ⟨rfl,h0⟩ | ⟨g,cap,cur,rfl,-,-,hn,hc,-,-⟩
 ·have:ll=[]:=List.length_eq_zero_iff.1 (by omega)
  subst this;exact⟨none,0,rfl,by decide,fun i hi=>absurd hi (by simp)⟩
 refine⟨_,cap,by rw[hlen],by unfold maxLen at hc;omega,fun i hi2=>?_⟩;have hiv:i<vs.length:=by omega
 have hrow:=h.rows i hiv;have hcell:=h.out.cellAt i (by omega);have hm:ll.getD i []∈ll:=by simp[List.getD,hi2]
 refine⟨g,0,vs.getD i undef,rfl,?_,hcap hrow,RowAt.ints (B:=B) ⟨hrow,hi _ hm⟩⟩;rw[Nat.zero_add,hcell];simp[List.getD,hiv]
namespace Plain
end Plain
namespace Plain
end Plain
end Go.Proofs.YtmhcmnaecpagiaaGreat
