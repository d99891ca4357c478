/- ref06: the contract of Right. Conditions: a graph, a part, turns that lie in memory and read so, of a bounded size. -/
import Derived.Test.YtkacjmoamgjfpaaGreatA9Ref8P
namespace Go.Proofs.YtkacjmoamgjfpaaGreat
open Go.RowKit Go.Maps
set_option maxRecDepth 100000 in
set_option maxHeartbeats 4000000 in
theorem tH (vg vp vt:Value) (g:aA.Gr) (p:aA.Pt) (aB:List (List Int)) (w:World) (hpl:p.e.length≤1000000) (hpv:p.v.length≤1000000) (hgl:g.e.length<4294967296) (hg:dW w vg g) (hp:gC w vp p) (ht:cG w vt aB) :
  Calls Tryz.prog 82 #[vg,vp,vt] w fun e w'=>e=.returned (.int .i64 (aA.bE g p aB))∧Chg [] w w':=by
 have HT:=lh ht;have HG:=lh hg;have HP:=lh hp;obtain⟨eo,cap,rfl,hn,hm,hsm,hcell⟩:=hg;obtain⟨v1,v2,rfl,hv,he⟩:=hp;obtain⟨ao,ac,rfl,has,ham,hacell⟩:=hv;obtain⟨bo,bc,rfl,hbs,hbm,hbcell⟩:=he;have HAC:=lh hacell;have HBC:=lh hbcell;have HAS:=lh has;have HBS:=lh hbs;obtain⟨-,-,hc1⟩:=cK w #[.int .i64 g.n,.slice eo g.e.length cap] #[.slice ao p.v.length ac,.slice bo p.e.length bc] 24 29;have HC1:=lh hc1;have HBXS:=lh (fun w2 h=>iW w (g:=g) (p:=p) (eo:=eo) (ao:=ao) (bo:=bo) (cap:=cap) (ac:=ac) (bc:=bc) (w2:=w2) h);clear hcell hacell hbcell hsm has hbs hn hc1;obtain⟨tno,tc,rfl,htm,-⟩:=ht;obtain⟨x0,x1,y0,y1,hsz⟩:=HBXS.out _ (Chg.refl _ _)
 go_enter Tryz.func82,Tryz.ntmps82
 go_wp2_with fail
 refine (aCb _ _ g p _ (by omega) (by omega) hgl (HG.out.fresh HC1.out) (HP.out.fresh HC1.out)).mono ?_;rintro e w2 ⟨rfl,hc2⟩;obtain⟨w1,hw1⟩:∃ w1,((w.alloc (.cells #[.int .i64 g.n,.slice eo g.e.length cap] 24)).alloc (.cells #[.slice ao p.v.length ac,.slice bo p.e.length bc] 29))=w1:=⟨_,rfl⟩;rw[hw1] at HC1 HBXS hc2;clear hw1 x0 x1 y0 y1 hsz;have HC2:=lh hc2;have HT1:=lh (HT.out.fresh HC1.out);obtain⟨x0,x1,y0,y1,hsz⟩:=HBXS.out w2 hc2;clear hc2;by_cases hpe:p.err g=0
 ·rw[hpe]
  have HPE:=lh hpe;have HPO:=lh (aA.Pt.aQ hpe);have HGE:=lh (aA.Gr.aV (aA.Pt.aV hpe).1);clear hpe;by_cases hl:(aB.length:Int)=g.n
  ·have hgn:g.n≤1024:=HGE.out.2.1
   have HL:=lh hl;have b1:((aB.length:Int) != g.n)=false:=by rw[hl];simp
   clear hl;go_wp2
   go_loopw [8] (fun c wr=>∃ k:Nat,k≤aB.length∧c=.int .i64 k∧Hid (∀ i,i<k→aA.nN g p aB (i:Nat))∧Chg [] w1 wr) (fun c _=>aB.length - (intOf c).toNat)
   case atStart=>exact⟨0,Nat.zero_le _,rfl,lh (fun i hi=>by omega),HC2.out⟩
   case round =>
    obtain⟨k,hk,rfl,hall,hc⟩:=hrel;have HC:=lh hc;obtain⟨x0,x1,y0,y1,hsz⟩:=HBXS.out wr hc;clear hc;by_cases hlt:k<aB.length
    ·have bk:decide ((k:Int)<g.n)=true:=decide_eq_true (by have:=HL.out;omega)
     have HBAD:=lh (fun h=>aA.aCs (g:=g) (p:=p) (aB:=aB) HPE.out (v:=k) (by have:=HL.out;omega) h);have HRI:=lh (show aA.nN g p aB (k:Nat)↔(aA.dX g p k).length=(aB.getD k []).length∧(aB.getD k []).Nodup∧∀ d∈aA.dX g p k,d∈aB.getD k [] by unfold aA.nN aA.aX;rw[Int.toNat_natCast]);obtain⟨tb,toff,uo,uc,rfl,hcell,hrow⟩:=HT1.out.row hlt;have HTC:=lh hcell;have HROW:=lh hrow;obtain⟨T,hT⟩:∃ T,aB.getD k []=T:=⟨_,rfl⟩;rw[hT] at HRI HTC HROW;clear hcell hrow hT
     go_wp2_with fail
     refine (aAb _ _ g p k _ hpl HPE.out ((HG.out.fresh HC1.out).fresh HC.out) ((HP.out.fresh HC1.out).fresh HC.out)).mono ?_;rintro e w3 ⟨ov,rfl,hov,hc3⟩;obtain⟨oo,oc,rfl⟩:=hov.shape;have HOV:=lh hov.ints;have HC3:=lh (HC.out.t hc3);clear x0 x1 y0 y1 hsz hov hc3;obtain⟨x0,x1,y0,y1,hsz⟩:=HBXS.out w3 HC3.out;have tcell:=HC3.out.c HTC.out;have hDl:(aA.dX g p k).length≤2000000:=by
      rw[←aA.uU];have h1:=aA.tI g p k p.aK.length;have h2:=aA.dO p;omega
     obtain⟨D,hD⟩:∃ D,aA.dX g p k=D:=⟨_,rfl⟩;rw[hD] at HRI HOV hDl ⊢;clear hD;by_cases h1:(D.length:Int)=(T.length:Int)
     ·have b2:((D.length:Int) != (T.length:Int))=false:=by simp[h1]
      have H1:=lh h1;clear h1
      go_wp2_with fail
      refine (aB0 _ T _ (HROW.out.fresh HC3.out)).mono ?_;rintro e w4 ⟨rfl,hc4⟩;have HC4:=lh (HC3.out.t hc4);have HC43:=lh hc4;clear x0 x1 y0 y1 hsz tcell hc4;by_cases h2:T.Nodup
      ·rw[decide_eq_true h2]
       have H2:=lh h2;clear h2;go_wp2
       go_loopw [10] (fun c wi=>∃ i:Nat,i≤D.length∧c=.int .i64 i∧Hid (∀ d∈D.take i,d∈T)∧Chg [] w4 wi) (fun c _=>D.length - (intOf c).toNat)
       case atStart=>exact⟨0,Nat.zero_le _,rfl,lh (by simp),Chg.refl _ _⟩
       case round =>
        rename World=>wi;obtain⟨i,hi,rfl,hin,hc5⟩:=hrel;have HC5:=lh (HC4.out.t hc5);have HC45:=lh hc5;by_cases hil:i<D.length
        ·obtain⟨db,doff,rfl,hdc⟩:=aL.cellAt (HOV.out.fresh (HC43.out.t hc5)) hil
         have tcell:=HC5.out.c HTC.out;have HTK:=lh (aA.eD hil);have HMEM:=lh ((show D.getD i 0∈D by simp[List.getD,hil]));obtain⟨z,hz⟩:∃ z,D.getD i 0=z:=⟨_,rfl⟩;rw[hz] at hdc HTK HMEM;clear hz hc5;go_wp2;have hS0:Chg [] wi wi.drew:=(Chg.refl [] wi).drew;refine aF (Chg [] wi) [0,1,2,3,4,5,6,7,9] (Way.line [0,1,2,3,4,5,6,7,8,9] .done) (by kernel_rfl) (by kernel_rfl) ?_;simp only[Way.line]
         repeat
          first
           | (refine aE rfl (by rfl) (by rfl) (fun _ _ _ h=>h) hS0 ?_;simp only[Act.put,Z1,Z2,Z3,Z4,Z5,Z6])
           | (refine aC (v:=?_) rfl (by rfl) (by rfl) (fun _ _ _ h=>h) hS0 (fun w' hS'=>?_) ?_;rotate_left;(focus (have rd0:=hS'.c tcell;have rd1:=hS'.c hdc;clear hS';go_simp;try with_reducible rfl));simp only[Act.put,Z1,Z2,Z3,Z4,Z5,Z6])
           | (refine aD rfl (by rfl) (by rfl) hS0 ?_;simp only[Act.put,Z1,Z2,Z3,Z4,Z5,Z6])
         refine aI rfl (by rfl) (by rfl) (fun K hK=>?_);go_simp;refine (gD _ T z _ (HROW.out.fresh (HC5.out.t hS0))).mono ?_;rintro e w6 ⟨rfl,hcx⟩;have hS1:=hS0.t hcx;clear hS0 hcx;have hS0:=hS1;clear hS1;refine hK.out _ _ (fun _=>hS0) ?_;clear hK K
         try simp only[Act.put,Z1,Z2,Z3,Z4,Z5,Z6]
         repeat
          first
           | (refine aE rfl (by rfl) (by rfl) (fun _ _ _ h=>h) hS0 ?_;simp only[Act.put,Z1,Z2,Z3,Z4,Z5,Z6])
           | (refine aC (v:=?_) rfl (by rfl) (by rfl) (fun _ _ _ h=>h) hS0 (fun w' hS'=>?_) ?_;rotate_left;(focus (have rd0:=hS'.c tcell;have rd1:=hS'.c hdc;clear hS';go_simp;try with_reducible rfl));simp only[Act.put,Z1,Z2,Z3,Z4,Z5,Z6])
           | (refine aD rfl (by rfl) (by rfl) hS0 ?_;simp only[Act.put,Z1,Z2,Z3,Z4,Z5,Z6])
         refine aG ?_;have HC6:=lh (HC5.out.t hS0);have HC64:=lh ((show Chg [] w4 wi from HC45.out).t hS0);clear tcell hdc hS0;by_cases hzT:z∈T
         ·rw[decide_eq_true hzT]
          have HN:=lh (show ∀ d∈D.take (i+1),d∈T from fun d hd=>by
           rw[HTK.out,List.mem_append] at hd;rcases hd with q | q
           ·exact hin.out d q
           rw[List.mem_singleton.1 q];exact hzT)
          clear hzT;go_wp2
          go_roundw
          case rel=>exact⟨i+1,by omega,by go_num,HN,HC64.out⟩
          case measure=>simp[intOf];omega
         rw[decide_eq_false hzT];have HE:=lh (HBAD.out fun h=>hzT ((HRI.out.1 h).2.2 z HMEM.out));have HCF:=lh (HC1.out.t HC6.out);clear hzT;go_wp2;go_ret;exact⟨aS HE.out.symm,HCF.out⟩
        have e:i=D.length:=by omega
        subst e;have HN:=lh (show ∀ i,i<k+1→aA.nN g p aB (i:Nat) from fun i hi=>by
         by_cases e:i=k
         ·rw[e]
          exact HRI.out.2 ⟨by have:=H1.out;omega,H2.out,by have:=hin.out;rwa[List.take_length] at this⟩
         exact hall.out i (by omega))
        clear hc5;go_wp2
        go_roundw
        case rel=>exact⟨k+1,by omega,by go_num,HN,HC5.out⟩
        case measure=>simp[intOf];omega
      rw[decide_eq_false h2];have HE:=lh (HBAD.out fun h=>h2 (HRI.out.1 h).2.1);have HCF:=lh (HC1.out.t HC4.out);clear h2;go_wp2;go_ret;exact⟨aS HE.out.symm,HCF.out⟩
     have b2:((D.length:Int) != (T.length:Int))=true:=by simp only[bne_iff_ne];exact h1
     have HE:=lh (HBAD.out fun h=>h1 (by have:=(HRI.out.1 h).1;omega));have HCF:=lh (HC1.out.t HC3.out);clear h1;go_wp2;go_ret;exact⟨aS HE.out.symm,HCF.out⟩
    have bk:decide ((k:Int)<g.n)=false:=decide_eq_false (by have:=HL.out;omega);have e:k=aB.length:=by omega
    subst e;have HE:=lh (aA.fV HPE.out (aA.lV HPO.out HL.out fun v hv=>hall.out v (by have:=HL.out;omega)));have HCF:=lh (HC1.out.t HC.out);go_wp2;go_ret;exact⟨aS HE.out.symm,HCF.out⟩
  have HE:=lh (aA.aBv (aB:=aB) HPE.out hl);have b1:((aB.length:Int) != g.n)=true:=by simp only[bne_iff_ne];exact hl
  have HCF:=lh (HC1.out.t HC2.out);clear hl;go_wp2;go_ret;exact⟨aS HE.out.symm,HCF.out⟩
 have HE:=lh (aA.gX (aB:=aB) hpe);have b1:((p.err g) != 0)=true:=by simp only[bne_iff_ne];exact hpe
 have HCF:=lh (HC1.out.t HC2.out);clear hpe;generalize p.err g=er at *;go_wp2;go_ret;exact⟨aS HE.out.symm,HCF.out⟩
theorem aFK (d:Nat) (w:World) (hd:d<4611686018427387904) :
  Calls Tryz.prog 173 #[.int .i64 d] w fun e w'=>e=.returned (.int .i64 (aA.dE d))∧w'=w:=by
 rcases (show (∃ e,d=2*e)∨∃ e,d=2*e+1 from by rcases Nat.mod_two_eq_zero_or_one d with h | h;exact Or.inl ⟨d / 2,by omega⟩;exact Or.inr ⟨d / 2,by omega⟩) with ⟨e,rfl⟩ | ⟨e,rfl⟩
 ·obtain⟨q1,q2⟩:=oI e
  have HE:=lh (show aA.dE ((2*e:Nat):Int)=((2*e:Nat):Int)+1 by unfold aA.dE;rw[if_pos (by omega)]);have w1:IntKind.i64.wrap (((2*e:Nat):Int)+1)=((2*e:Nat):Int)+1:=IntWalk.i64_in _ (by omega);generalize ((2*e:Nat):Int)=dd at *
  go_enter Tryz.func173,Tryz.ntmps173
  go_wp2;go_ret;exact⟨aS HE.out.symm,rfl⟩
 obtain⟨q1,q2⟩:=rH e;have HE:=lh (show aA.dE ((2*e+1:Nat):Int)=((2*e+1:Nat):Int) - 1 by unfold aA.dE;rw[if_neg (by omega)]);have w1:IntKind.i64.wrap (((2*e+1:Nat):Int) - 1)=((2*e+1:Nat):Int) - 1:=IntWalk.i64_in _ (by omega);generalize ((2*e+1:Nat):Int)=dd at *
 go_enter Tryz.func173,Tryz.ntmps173
 go_wp2;go_ret;exact⟨aS HE.out.symm,rfl⟩
set_option maxRecDepth 100000 in
set_option maxHeartbeats 2000000 in
theorem aCl (vg vt:Value) (g:aA.Gr) (p:aA.Pt) (aB:List (List Int)) (d:Nat) (w:World) (hd:(d:Int)∈p.aK) (hpe:p.err g=0) (hto:aA.aW g p aB) (hrl:∀ v,(aA.aX aB v).length<4294967296) (hg:dW w vg g) (ht:cG w vt aB) :
  Calls Tryz.prog 172 #[vg,vt,.int .i64 d,.int .i64 (-1)] w fun e w'=>e=.returned (.int .i64 (aA.before g aB d))∧Chg [] w w':=by
 have hpo:=aA.Pt.aQ hpe;have hge:=aA.Gr.aV (aA.Pt.aV hpe).1;have htl:=hpo.vr _ (hpo.dN hd).1;have hde:=aA.Pt.pU hpe (aA.bN.1 hd);have hd2:d / 2<g.e.length:=by omega
 have hglen:g.e.length<4294967296:=by omega
 have hin:=(hto.mem _ htl.1 htl.2 d).2 ⟨hd,rfl⟩;have hlen:=hto.len;have hbe:aA.before g aB d=aA.ahead (aA.aX aB (g.tail d)) d:=rfl;have HG:=lh hg;have HT:=lh ht;obtain⟨tno,tc,rfl,htm,-⟩:=ht;obtain⟨tv,htv⟩:∃ tv:Nat,g.tail d=tv:=⟨(g.tail d).toNat,by omega⟩;rw[htv] at htl hin hbe;have htvl:tv<aB.length:=by omega
 obtain⟨tb,toff,uo,uc,rfl,tcell,hrow⟩:=HT.out.row htvl;have hta:aA.aX aB (tv:Int)=aB.getD tv []:=by unfold aA.aX;rw[Int.toNat_natCast]
 rw[hta] at hin hbe;have hTl:=hrl (tv:Int);rw[hta] at hTl;have HROW:=lh hrow;generalize aB.getD tv []=T at *;have hix:=List.idxOf_lt_length_iff.2 hin;have HFI:=lh (show aA.mU T d=(T.idxOf (d:Int):Nat) from if_pos hin);have hBE:=lh (show aA.before g aB d=T.getD ((T.idxOf (d:Int)+T.length - 1) % T.length) 0 from hbe);generalize T.idxOf (d:Int)=ix at *;have w1:IntKind.i64.wrap ((ix:Int) + -1)=(ix:Int) + -1:=IntWalk.i64_in _ (by omega);have w2:IntKind.i64.wrap ((ix:Int) + -1+(T.length:Int))=((ix+T.length - 1:Nat):Int):=by rw[IntWalk.i64_in _ (by omega)];omega
 obtain⟨j,hj⟩:∃ j,(ix+T.length - 1) % T.length=j:=⟨_,rfl⟩;have w3:Int.tmod ((ix+T.length - 1:Nat):Int) (T.length:Int)=(j:Int):=by rw[Int.tmod_eq_emod_of_nonneg (by omega),←hj];omega
 have hjl:j<T.length:=by rw[←hj];exact Nat.mod_lt _ (by omega)
 have hl0:((T.length:Int)==0)=false:=by rw[beq_eq_false_iff_ne];omega
 rw[hj] at hBE;obtain⟨eo,cap,rfl,-,-,-,-⟩:=hg;have HC1:=lh ((Chg.refl [] w).alloc (.cells #[.int .i64 g.n,.slice eo g.e.length cap] 24));have tc1:=fun o=>bG tcell o;have HTV:=lh htv;clear hpo hge hin hlen hbe hta hrow htv hj hde hd hto hrl hpe
 go_enter Tryz.func172,Tryz.ntmps172
 go_wp2_with fail
 refine (wN _ g d _ hd2 hglen (HG.out.fresh HC1.out)).mono ?_;rintro e w2' ⟨rfl,hc2⟩;rw[HTV.out];have HC2:=lh (HC1.out.t hc2);have tcell2:=HC2.out.c tcell;clear hc2 tc1 tcell
 go_wp2_with fail
 refine (xN _ T (d:Int) _ (HROW.out.fresh HC2.out)).mono ?_;rintro e w3' ⟨rfl,hc3⟩;rw[HFI.out];obtain⟨rb,roff,rfl,hrc⟩:=aL.cellAt HROW.out hjl;have HC3:=lh (HC2.out.t hc3);have c3:=HC3.out.c hrc;clear hc3 hrc tcell2;go_wp2;go_ret;exact⟨aS (by rw[hBE.out];simp[List.getD,hjl]),HC3.out⟩
set_option maxRecDepth 100000 in
theorem nX (vg vt:Value) (g:aA.Gr) (p:aA.Pt) (aB:List (List Int)) (d:Nat) (w:World) (hd:(d:Int)∈p.aK) (hpe:p.err g=0) (hto:aA.aW g p aB) (hrl:∀ v,(aA.aX aB v).length<4294967296) (hg:dW w vg g) (ht:cG w vt aB) :
  Calls Tryz.prog 120 #[vg,vt,.int .i64 d] w fun e w'=>e=.returned (.int .i64 (aA.bT g aB d))∧Chg [] w w':=by
 have hpo:=aA.Pt.aQ hpe;have hge:=aA.Gr.aV (aA.Pt.aV hpe).1;have hde:=aA.Pt.pU hpe (aA.bN.1 hd);have hdb:d<4611686018427387904:=by omega
 have htw:=aA.jD hd;have hte:=aA.Pt.pU hpe (aA.bN.1 htw);obtain⟨td,htd⟩:∃ td:Nat,aA.dE d=td:=⟨(aA.dE d).toNat,by omega⟩;have HND:=lh (show aA.bT g aB d=aA.before g aB td by unfold aA.bT;rw[htd]);have HG:=lh hg;have HT:=lh ht;rw[htd] at htw;have HTD:=lh htd;have HTW:=lh htw;have HTO:=lh hto;have HPE:=lh hpe;have HRL:=lh hrl;obtain⟨eo,cap,rfl,-,-,-,-⟩:=hg;obtain⟨tno,tc,rfl,htm,-⟩:=ht;have hb:=heap_alloc_new w (.cells #[.int .i64 g.n,.slice eo g.e.length cap] 24);have x0:=(cell_of_row _ _ 0 _ _ _ hb).trans (show _=some (Value.int .i64 g.n) from rfl);have x1:=(cell_of_row _ _ 1 _ _ _ hb).trans (show _=some (Value.slice eo g.e.length cap) from rfl);have HC1:=lh ((Chg.refl [] w).alloc (.cells #[.int .i64 g.n,.slice eo g.e.length cap] 24));clear hpo hge hde hte htw htd hto hpe hrl hb
 go_enter Tryz.func120,Tryz.ntmps120
 go_wp2;generalize (w.alloc (.cells #[.int .i64 g.n,.slice eo g.e.length cap] 24))=w1 at *;have hS0:Chg [] w1 w1.drew:=(Chg.refl [] w1).drew;refine aF (Chg [] w1) [0,1,2] (Way.line [0,1,2,3,4,5] .done) (by kernel_rfl) (by kernel_rfl) ?_;simp only[Way.line]
 repeat
  first
   | (refine aE rfl (by rfl) (by rfl) (fun _ _ _ h=>h) hS0 ?_;simp only[Act.put,Z1,Z2,Z3,Z4,Z5,Z6])
   | (refine aC (v:=?_) rfl (by rfl) (by rfl) (fun _ _ _ h=>h) hS0 (fun w' hS'=>?_) ?_;rotate_left;(focus (have rd0:=hS'.c x0;have rd1:=hS'.c x1;clear hS';go_simp;try with_reducible rfl));simp only[Act.put,Z1,Z2,Z3,Z4,Z5,Z6])
   | (refine aD rfl (by rfl) (by rfl) hS0 ?_;simp only[Act.put,Z1,Z2,Z3,Z4,Z5,Z6])
 refine aI rfl (by rfl) (by rfl) (fun K hK=>?_);go_simp;refine (aFK d _ hdb).mono ?_;rintro e w2 ⟨rfl,rfl⟩;refine hK.out _ _ (fun _=>hS0) ?_;clear hK K;rw[HTD.out]
 try simp only[Act.put,Z1,Z2,Z3,Z4,Z5,Z6]
 refine aI rfl (by rfl) (by rfl) (fun K hK=>?_);go_simp;refine (aCl _ _ g p aB td _ HTW.out HPE.out HTO.out HRL.out ((HG.out.fresh HC1.out).fresh hS0) ((HT.out.fresh HC1.out).fresh hS0)).mono ?_;rintro e w3 ⟨rfl,hcx⟩;have hS1:=hS0.t hcx;clear hS0 hcx;have hS0:=hS1;clear hS1;refine hK.out _ _ (fun _=>hS0) ?_;clear hK K
 try simp only[Act.put,Z1,Z2,Z3,Z4,Z5,Z6]
 refine aI rfl (by rfl) (by rfl) (fun K hK=>?_);go_simp;refine hK.out _ _ (fun _=>hS0) ?_;clear hK K
 try simp only[Act.put,Z1,Z2,Z3,Z4,Z5,Z6]
 refine aG ?_;have HCF:=lh (HC1.out.t hS0);clear x0 x1 hS0;go_wp2;go_ret;exact⟨aS HND.out.symm,HCF.out⟩
theorem aFF:xV 79 90 (.agg #[.int .i64 0,.slice none 0 0]) 2 32:=⟨Tryz.underlying79,by kernel_rfl,rfl,by decide,by decide⟩
theorem aDS {ops:Array Oper} {rest:List Oper} {o:Oper} {a:Act} {Q:Exit→Act→World→Prop} {w w0:World} (hg:o.guard=none) (s x:Operand) (ho:o.op=.call { callee:=.builtin .append,args:=#[s,x],argTypes:=#[79,79] })
  {B T:Nat} {ov v:Value} {F:List aA.aO} {xs:List Value} {k:Int} {l:List Int} (hs:a.eval s=ov) (hx:a.eval x=.slice (some ⟨w0.heap.size,0,none⟩) 1 1) (h:dL w0 B 90 2 ov F.length xs (dI F)) (hB:B≤w0.heap.size) (hv:aM w0 B v l)
  (hT:∀ j∈aP v,T≤j) (hX:∀ k b,k<xs.length→(xs.getD k undef).ownBlock=some b→b<T) (hn:F.length<1000000000) (hw:w=w0.alloc (.cells #[.int .i64 k,v] 90))
  (hK:∀ ov' w',dL w' B 90 2 ov' (F++[(k,l)]).length (xs++[.int .i64 k,v]) (dI (F++[(k,l)]))→Chg ov.ownBlock.toList w0 w'→wpList Tryz.prog ops Q rest (a.put o.dst ov') w'):wpList Tryz.prog ops Q (o :: rest) a w:=by
 subst hw;refine qZ aFF hg s x ho hs hx rfl h.out hB (cs:=#[.int .i64 k,v]) rfl (by
  intro u hu;simp at hu;rcases hu with rfl | rfl
  ·rfl
  obtain⟨a',c',e⟩:=hv.shape;rw[e];rfl) (by omega) fun g cap w' r2 r3 _=>?_
 refine hK _ w' ?_ r3;have hlen:(F++[(k,l)]).length=F.length+1:=by simp
 rw[oK,hlen];exact h.add (w':=w') (g:=g) (cap:=cap) (us:=[.int .i64 k,v]) (ds:=[.num k,.row l]) (by decide) rfl rfl (fun i d hi=>by
   rcases i with _ | _ | i
   ·simp at hi;subst hi;rfl
   ·simp at hi;subst hi;exact hv
   ·simp at hi) (fun i j hi hj hne=>by
   simp at hi hj;rcases i with _ | _ | i
   ·exact Or.inl rfl
   ·rcases j with _ | _ | j
    ·cases hq:([Value.int .i64 k,v].getD 1 undef).ownBlock with
     | none=>exact Or.inl rfl
     | some b=>exact Or.inr (by simp[Value.ownBlock])
    ·omega
    omega
   ·omega) (fun i j b hi hj hb e=>by
   simp at hj;have:=hX i b hi hb;rcases j with _ | _ | j
   ·simp[Value.ownBlock] at e
   ·have e':v.ownBlock=some b:=e
    have:=hT b (by rw[hv.aP,e'];simp);omega
   omega) r2 r3
def sliceLen:Value→Nat
 | .slice _ n _=>n
 | _=>0
set_option maxRecDepth 100000 in
set_option maxHeartbeats 8000000 in
theorem mP (vg vp vt:Value) (g:aA.Gr) (p:aA.Pt) (aB:List (List Int)) (w:World) (hpl:p.e.length≤1000000) (hpv:p.v.length≤1000000) (hpe:p.err g=0) (hto:aA.aW g p aB) (hrl:∀ v,(aA.aX aB v).length<4294967296) (hg:dW w vg g) (hp:gC w vp p) (ht:cG w vt aB) :
  Calls Tryz.prog 54 #[vg,vp,vt] w fun e w'=>∃ ov xs,e=.returned ov∧dL w' w.heap.size 90 2 ov (aA.aH g p aB).length xs (dI (aA.aH g p aB))∧Chg [] w w':=by
 have HT:=lh ht;have HPE:=lh hpe;have HTO:=lh hto;have HRL:=lh hrl;have HPO:=lh (aA.Pt.aQ hpe);have HGE:=lh (aA.Gr.aV (aA.Pt.aV hpe).1);have HWK:=lh (aA.qT hpe hto);have HDN:=lh (fun d (hd:d∈p.aK)=>aA.Pt.mC hpe hd);have HDL:=lh (aA.dO p);clear hpe hto hrl;have HG:=lh hg;have HP:=lh hp;obtain⟨eo,cap,rfl,hn,hm,hsm,hcell⟩:=hg;obtain⟨v1,v2,rfl,hv,he⟩:=hp;obtain⟨ao,ac,rfl,has,ham,hacell⟩:=hv;obtain⟨bo,bc,rfl,hbs,hbm,hbcell⟩:=he;have HAC:=lh hacell;have HBC:=lh hbcell;have HAS:=lh has;have HBS:=lh hbs;obtain⟨-,-,hc1⟩:=cK w #[.int .i64 g.n,.slice eo g.e.length cap] #[.slice ao p.v.length ac,.slice bo p.e.length bc] 24 29;have HC1:=lh hc1;have HBXS:=lh (fun w2 h=>iW w (g:=g) (p:=p) (eo:=eo) (ao:=ao) (bo:=bo) (cap:=cap) (ac:=ac) (bc:=bc) (w2:=w2) h);clear hcell hacell hbcell hsm has hbs hn hc1;obtain⟨tno,tc,rfl,htm,-⟩:=ht;obtain⟨x0,x1,y0,y1,hsz⟩:=HBXS.out _ (Chg.refl _ _)
 go_enter Tryz.func54,Tryz.ntmps54
 go_wp2;obtain⟨w1,hw1⟩:∃ w1,((w.alloc (.cells #[.int .i64 g.n,.slice eo g.e.length cap] 24)).alloc (.cells #[.slice ao p.v.length ac,.slice bo p.e.length bc] 29))=w1:=⟨_,rfl⟩;rw[hw1] at HC1 HBXS ⊢;clear hw1 x0 x1 y0 y1 hsz;have HT1:=lh (HT.out.fresh HC1.out);have HB1:=lh HC1.out.size
 go_loopw [7,8] (fun ov c wr=>∃ (k:Nat) (xs:List Value),k≤p.v.length∧c=.int .i64 ((k:Int) - 1)∧dL wr w1.heap.size 90 2 ov (aA.bW aB (p.v.drop k)).length xs (dI (aA.bW aB (p.v.drop k)))∧Chg [] w1 wr) (fun _ c _=>(intOf c+1).toNat)
 case atStart=>exact⟨p.v.length,[],Nat.le_refl _,by go_num,by rw[List.drop_length];exact dL.nil _ _ _ _,Chg.refl _ _⟩
 case round =>
  obtain⟨k,xs,hk,rfl,hnest,hc⟩:=hrel;have HN:=lh hnest;have HC:=lh hc;obtain⟨oo,oc,rfl⟩:=hnest.shape;obtain⟨x0,x1,y0,y1,hsz⟩:=HBXS.out wr hc;clear hnest hc;by_cases h0:0<k
  ·obtain⟨j,rfl⟩:∃ j,k=j+1:=⟨k - 1,by omega⟩
   obtain⟨ab,aoff,rfl,hca⟩:=HAC.out (by intro e;rw[e] at hk;simp at hk);have hcj:=HC.out.c (HC1.out.c (hca j hk));rw[show (((j+1:Nat):Int) - 1)=(j:Int) by omega];have hjl:j<p.v.length:=by omega
   have hvr:=HPO.out.vr (p.v.getD j 0) (by simp[List.getD,hjl]);obtain⟨v,hve⟩:∃ v:Nat,p.v.getD j 0=(v:Int):=⟨(p.v.getD j 0).toNat,by omega⟩;have HDR:=lh (show aA.bW aB (p.v.drop j)=aA.bW aB (p.v.drop (j+1))++(if (aB.getD v []).isEmpty then [(-1 - (v:Int),[])] else []) by
    rw[List.drop_eq_getElem_cons hjl,aA.tJ];have e1:p.v[j]=(v:Int):=by rw[←hve];simp[List.getD,hjl]
    rw[e1];unfold aA.aX;simp)
   have hvT:v<aB.length:=by have:=HTO.out.len;omega
   have hvg:(v:Int)≤1024:=by have:=HGE.out.2.1;omega
   rw[hve] at hcj;obtain⟨tb,toff,uo,uc,rfl,hu,-⟩:=HT1.out.row hvT;have hcu:=HC.out.c hu;have hfl:(aA.bW aB (p.v.drop (j+1))).length≤p.v.length:=by
    unfold aA.bW;rw[List.length_map];refine Nat.le_trans (List.length_filter_le _ _) ?_;rw[List.length_reverse,List.length_drop];omega
   have w1e:IntKind.i64.wrap (-1 - (v:Int)) = -1 - (v:Int):=IntWalk.i64_in _ (by omega);obtain⟨F,hF⟩:∃ F,aA.bW aB (p.v.drop (j+1))=F:=⟨_,rfl⟩;rw[hF] at HN HDR hfl ⊢;obtain⟨l,hlk⟩:∃ l,aB.getD v []=l:=⟨_,rfl⟩;rw[hlk] at hcu HDR;clear hca hvr hve hu hlk h0 hF;cases l with
   | nil =>
    have HNB:=lh (HC.out.size);have HNX:=lh (fun k b (hk:k<xs.length) (hb:(xs.getD k undef).ownBlock=some b)=>(HN.out.kind hk hb).2.1);have hfl2:F.length<1000000000:=by omega
    go_wp2_with (at_builtin;refine aDS rfl _ _ rfl (T:=wr.heap.size) (ov:=.slice oo _ oc) rfl rfl HN.out HNB.out (gH _ _) (by simp[aP,Value.ownBlock]) HNX.out hfl2 rfl ?_;intro v6 w6 r6 c6;have R6:=lh r6;have C6:=lh c6;clear r6 c6)
    go_roundw
    case rel=>exact⟨j,_,by omega,rfl,by rw[HDR.out];exact R6.out,HC.out.trans C6.out (fun j hj=>Or.inr (HN.out.out.lt j (by simpa using hj)).1)⟩
    case measure=>simp[intOf]
   | cons d0 l0 =>
    have b0:(((d0 :: l0).length:Int)==0)=false:=by rw[beq_eq_false_iff_ne];simp;omega
    go_wp2
    go_roundw
    case rel=>exact⟨j,xs,by omega,rfl,by rw[HDR.out];simpa using HN.out,HC.out⟩
    case measure=>simp[intOf]
  have e:k=0:=by omega
  subst e;rw[List.drop_zero] at HN ⊢;have hwl:∀ i,(aA.bW aB p.v++aA.eA g p aB i).length≤p.v.length+i:=fun i=>by
   rw[List.length_append];have:=aA.aCL g p aB i;unfold aA.bW;rw[List.length_map];have h2:=List.length_filter_le (fun v=>(aA.aX aB v).isEmpty) p.v.reverse;rw[List.length_reverse] at h2;omega
  have HWL:=lh hwl;have HN0:=lh (show aA.bW aB p.v++aA.eA g p aB 0=aA.bW aB p.v by rw[aA.aA6,List.append_nil]);clear hwl x0 x1 y0 y1 hsz h0;obtain⟨x0,x1,y0,y1,hsz⟩:=HBXS.out wr HC.out;rw[show (((0:Nat):Int) - 1) = -1 by omega];go_wp2
  go_loopw [7,9] (fun ov c wi=>∃ (i:Nat) (ys:List Value),i≤2*p.e.length∧c=.int .i64 i∧dL wi w1.heap.size 90 2 ov (aA.bW aB p.v++aA.eA g p aB i).length ys (dI (aA.bW aB p.v++aA.eA g p aB i))∧Chg [] w1 wi) (fun _ c _=>2*p.e.length - (intOf c).toNat)
  case atStart=>exact⟨0,xs,Nat.zero_le _,rfl,by rw[HN0.out];exact HN.out,HC.out⟩
  case round =>
   clear HC HN x0 x1 y0 y1 hsz;rename World=>wi;obtain⟨i,ys,hi,rfl,hnest,hc⟩:=hrel;have HN:=lh hnest;have HC:=lh hc;obtain⟨oo,oc,rfl⟩:=hnest.shape;obtain⟨x0,x1,y0,y1,hsz⟩:=HBXS.out wi hc;have w2l:IntKind.i64.wrap (2*(p.e.length:Int))=2*(p.e.length:Int):=IntWalk.i64_in _ (by omega);clear hnest hc;by_cases hil:i<2*p.e.length
   ·have hil2:i / 2<p.e.length:=by omega
    obtain⟨bb,boff,rfl,hbc⟩:=HBC.out (by intro e;rw[e] at hil;simp at hil);have hcb:=HC.out.c (HC1.out.c (hbc (i / 2) hil2));have hdi:=aA.xD hil2 (i % 2) (by omega);rw[show 2*(i / 2)+i % 2=i by omega] at hdi;have hdm:p.aK.getD i 0∈p.aK:=by have:=HDL.out;simp[List.getD,show i<p.aK.length by omega]
    obtain⟨d,hd,hd2,hd3⟩:=HDN.out _ hdm;have HMS:=lh (aA.aCh (g:=g) (p:=p) (aB:=aB) (k:=i) (by rw[HDL.out];exact hil));have HCY:=lh (aA.vD HPO.out HTO.out hdm);have HMA:=lh (show aA.qD g p aB (p.aK.getD i 0)=(aA.oS g p aB (p.aK.getD i 0)).all fun x=>decide (p.aK.getD i 0<x) from rfl);have HDM:=lh hdm;rw[hd] at hdi HMS HCY HMA HDM;obtain⟨L,hL⟩:∃ L,aA.oS g p aB (d:Int)=L:=⟨_,rfl⟩;rw[hL] at HMS HCY HMA;have hLl:L.length≤2*p.e.length:=by
     have h1:=aA.cQ HCY.out.nodup (m:=p.aK) HCY.out.sub;have:=HDL.out;simp at h1;omega
    obtain⟨ev,hev⟩:∃ ev:Nat,p.e.getD (i / 2) 0=ev:=by
     refine⟨d / 2,?_⟩;omega
    rw[hev] at hcb hdi;have q1:Int.tdiv (i:Int) 2=((i / 2:Nat):Int):=by rw[Int.tdiv_eq_ediv_of_nonneg (by omega)];omega
    have q2:Int.tmod (i:Int) 2=(i:Int) % 2:=by rw[Int.tmod_eq_emod_of_nonneg (by omega)]
    have q3:IntKind.i64.wrap (2*(ev:Int))=2*(ev:Int):=IntWalk.i64_in _ (by omega);have q4:IntKind.i64.wrap (2*(ev:Int)+(i:Int) % 2)=(d:Int):=by rw[IntWalk.i64_in _ (by omega)];omega
    have hWL:=HWL.out i;obtain⟨G,hG⟩:∃ G,aA.bW aB p.v++aA.eA g p aB i=G:=⟨_,rfl⟩;have HGN:=lh (show aA.bW aB p.v++aA.eA g p aB (i+1)=G++(if aA.qD g p aB d then [((d:Int),(d:Int) :: L)] else []) by rw[HMS.out,←List.append_assoc,hG]);rw[hG] at HN hWL ⊢;have HID:=lh (show I64 (d:Int) from I64.mk (by omega) (by omega));have HX0:=lh (fun wx (hx:Chg [] wi wx)=>HBXS.out wx (HC.out.t hx));have hND0:=aA.aDY HCY.out.ring (Nat.zero_le _);have hND1:aA.bT g aB d=(L++[(d:Int)]).getD 0 0:=hND0;obtain⟨nd,hnd⟩:∃ nd,(L++[(d:Int)]).getD 0 0=nd:=⟨_,rfl⟩;rw[hnd] at hND1;have HND:=lh hND1;have HNDE:=lh hnd;clear hND1 hnd;have x0n:=fun o=>bG x0 o;have x1n:=fun o=>bG x1 o;clear hbc hdm hL hev hG hd hND0 hdi
    go_wp2_with fail
    have hLT:=(Chg.refl [] wi).alloc (.cells #[.int .i64 (d:Int)] 3);have HLT:=lh hLT;have HLR:=lh (mM (w:=wi) (B:=wi.heap.size) (Nat.le_refl _) HID.out);refine (nX _ _ g p aB d _ HDM.out HPE.out HTO.out HRL.out ((HG.out.fresh HC1.out).fresh (HC.out.t hLT)) (HT1.out.fresh (HC.out.t hLT))).mono ?_;rintro e w3 ⟨rfl,hc3⟩;have HC3:=lh (HLT.out.t hc3);have HR3:=lh (HLR.out.chg hc3 (by simp));rw[HND.out];clear hLT hc3 x0 x1 y0 y1 hsz hcb x0n x1n;go_wp2
    go_loopw [11,12,13] (fun lv bv xv wx=>∃ j:Nat,j≤L.length∧aM wx wi.heap.size lv ((d:Int) :: L.take j)∧bv=.bool ((L.take j).all fun x=>decide ((d:Int)<x))∧xv=.int .i64 ((L++[(d:Int)]).getD j 0)∧Chg [] wi wx) (fun lv _ _ _=>L.length+2 - sliceLen lv)
    case atStart=>exact⟨0,Nat.zero_le _,by simpa using HR3.out,by simp,by rw[HNDE.out],HC3.out⟩
    case round =>
     rename World=>wx;obtain⟨j,hj,hrow,rfl,rfl,hcx⟩:=hrel;have HROW:=lh hrow;obtain⟨lo,lc,rfl⟩:=hrow.shape;have HCX:=lh hcx;obtain⟨x0,x1,y0,y1,hsz⟩:=HX0.out _ hcx;clear hrow hcx;by_cases hjl:j<L.length
     ·have hge:(L++[(d:Int)]).getD j 0=L.getD j 0:=by simp[List.getD,List.getElem?_append_left hjl]
      have hzm:L.getD j 0∈L:=by simp[List.getD,hjl]
      have hne:L.getD j 0≠(d:Int):=fun e=>(List.nodup_cons.1 HCY.out.nodup).1 (e ▸ hzm);have hzd:=HCY.out.sub _ (List.mem_cons_of_mem _ hzm);have hnx:=aA.aDY HCY.out.ring (k:=j+1) (by omega);rw[show ((d:Int) :: L).getD (j+1) 0=L.getD j 0 from rfl] at hnx;have HTK:=lh (aA.eD hjl);rw[hge];obtain⟨z,hz,-,hz3⟩:=HDN.out _ hzd;rw[hz] at hne hzd hnx HTK ⊢;have HZD:=lh hzd;obtain⟨nx,hnxe⟩:∃ nx,(L++[(d:Int)]).getD (j+1) 0=nx:=⟨_,rfl⟩;rw[hnxe] at hnx;have HNX:=lh hnx;have HNXE:=lh hnxe;clear hnxe;have b1:((z:Int) != (d:Int))=true:=by simp only[bne_iff_ne];exact hne
      have HIZ:=lh (show I64 (z:Int) from I64.mk (by omega) (by omega));have hlen:((d:Int) :: L.take j).length<4294967290:=by simp;omega
      have HBX:=lh HCX.out.size;have hsl:((d:Int) :: L.take j).length=j+1:=by simp;omega
      have HALL:=lh (show ((L.take (j+1)).all fun x=>decide ((d:Int)<x))=(((L.take j).all fun x=>decide ((d:Int)<x))&&decide ((d:Int)<(z:Int))) by rw[HTK.out,List.all_append];simp);clear hge hzm hne hzd hnx hz;cases hb:(L.take j).all fun x=>decide ((d:Int)<x) with
      | true =>
       rw[hb] at HALL;clear hb
       go_wp2_with (first | (at_builtin;refine dS rfl _ _ rfl (B:=wi.heap.size) (v:=.slice lo _ lc) rfl rfl HROW.out HIZ.out HBX.out hlen rfl ?_;intro v6 w6 r6 c6 f6;have R6:=lh r6;have HC6:=lh (HCX.out.trans c6 (fun j hj=>Or.inr (by rw[HROW.out.aP] at hj;exact (HROW.out.low j hj).1)));clear r6 c6 f6;clear x0 x1 y0 y1 hsz;obtain⟨x0,x1,y0,y1,hsz⟩:=HX0.out _ HC6.out) | fail)
       refine (nX _ _ g p aB z _ HZD.out HPE.out HTO.out HRL.out ((HG.out.fresh HC1.out).fresh (HC.out.t HC6.out)) (HT1.out.fresh (HC.out.t HC6.out))).mono ?_;rintro e w7 ⟨rfl,hc7⟩;rw[HNX.out];have HC7:=lh (HC6.out.t hc7);have HR7:=lh (R6.out.chg hc7 (by simp));clear hc7 x0 x1 y0 y1 hsz;obtain⟨v6o,v6c,rfl⟩:=R6.out.shape;obtain⟨n6,hn6⟩:∃ n6,((d:Int) :: L.take j++[(z:Int)]).length=n6:=⟨_,rfl⟩;have HN6:=lh (show n6=j+2 by rw[←hn6];simp;omega);rw[hn6] at HR7 ⊢;clear hn6;go_wp2
       go_roundw
       case rel=>exact⟨j+1,by omega,by rw[HTK.out];exact HR7.out,by rw[HALL.out];simp,by rw[HNXE.out],HC7.out⟩
       case measure=>have:=HN6.out;simp[sliceLen];omega
      | false =>
       rw[hb] at HALL;clear hb
       go_wp2_with (first | (at_builtin;refine dS rfl _ _ rfl (B:=wi.heap.size) (v:=.slice lo _ lc) rfl rfl HROW.out HIZ.out HBX.out hlen rfl ?_;intro v6 w6 r6 c6 f6;have R6:=lh r6;have HC6:=lh (HCX.out.trans c6 (fun j hj=>Or.inr (by rw[HROW.out.aP] at hj;exact (HROW.out.low j hj).1)));clear r6 c6 f6;clear x0 x1 y0 y1 hsz;obtain⟨x0,x1,y0,y1,hsz⟩:=HX0.out _ HC6.out) | fail)
       refine (nX _ _ g p aB z _ HZD.out HPE.out HTO.out HRL.out ((HG.out.fresh HC1.out).fresh (HC.out.t HC6.out)) (HT1.out.fresh (HC.out.t HC6.out))).mono ?_;rintro e w7 ⟨rfl,hc7⟩;rw[HNX.out];have HC7:=lh (HC6.out.t hc7);have HR7:=lh (R6.out.chg hc7 (by simp));clear hc7 x0 x1 y0 y1 hsz;obtain⟨v6o,v6c,rfl⟩:=R6.out.shape;obtain⟨n6,hn6⟩:∃ n6,((d:Int) :: L.take j++[(z:Int)]).length=n6:=⟨_,rfl⟩;have HN6:=lh (show n6=j+2 by rw[←hn6];simp;omega);rw[hn6] at HR7 ⊢;clear hn6;go_wp2
       go_roundw
       case rel=>exact⟨j+1,by omega,by rw[HTK.out];exact HR7.out,by rw[HALL.out];simp,by rw[HNXE.out],HC7.out⟩
       case measure=>have:=HN6.out;simp[sliceLen];omega
     have e:j=L.length:=by omega
     subst e;have hge:(L++[(d:Int)]).getD L.length 0=(d:Int):=by simp[List.getD]
     rw[hge];rw[List.take_length] at HROW ⊢;have HMA2:=lh (show (L.all fun x=>decide ((d:Int)<x))=aA.qD g p aB d from HMA.out.symm);have b1:((d:Int) != (d:Int))=false:=by simp
     have HCW:=lh (HC.out.t HCX.out);have HNW:=lh (HN.out.chg HCX.out (by simp) (by simp));have HBW:=lh HCW.out.size;have HNK:=lh (fun k b (hk:k<ys.length) (hb:(ys.getD k undef).ownBlock=some b)=>(HN.out.kind hk hb).2.1);have HRT:=lh (fun j (hj:j∈aP (Value.slice lo ((d:Int) :: L).length lc))=>(show wi.heap.size≤j by rw[HROW.out.aP] at hj;exact (HROW.out.low j hj).1));have HRB:=lh (HROW.out.base (show w1.heap.size≤wi.heap.size from HC.out.size));have hGl:G.length<1000000000:=by omega
     clear hge hjl;cases hb:L.all fun x=>decide ((d:Int)<x) with
     | true =>
      rw[hb] at HMA2;have HGE2:=lh (HGN.out.trans (by rw[←HMA2.out,if_pos rfl]));clear hb
      go_wp2_with (at_builtin;refine aDS rfl _ _ rfl (T:=wi.heap.size) (ov:=.slice oo _ oc) rfl rfl HNW.out HBW.out HRB.out HRT.out HNK.out hGl rfl ?_;intro v6 w6 r6 c6;have R6:=lh r6;have C6:=lh c6;clear r6 c6)
      go_roundw
      case rel=>exact⟨i+1,_,by omega,by go_num,by rw[HGE2.out];exact R6.out,HCW.out.trans C6.out (fun j hj=>Or.inr (HNW.out.out.lt j (by simpa using hj)).1)⟩
      case measure=>simp[intOf];omega
     | false =>
      rw[hb] at HMA2;have HGE2:=lh (HGN.out.trans (by rw[←HMA2.out,if_neg (by simp),List.append_nil]));clear hb;go_wp2
      go_roundw
      case rel=>exact⟨i+1,_,by omega,by go_num,by rw[HGE2.out];exact HNW.out,HCW.out⟩
      case measure=>simp[intOf];omega
   have e:i=2*p.e.length:=by omega
   subst e;have HW2:aA.bW aB p.v++aA.eA g p aB (2*p.e.length)=aA.aH g p aB:=by rw[←HDL.out];exact HWK.out
   rw[HW2] at HN ⊢;clear HW2;have HCF:=lh (HC1.out.t HC.out);have HNF:=lh (HN.out.base HB1.out);obtain⟨rn,hrn⟩:∃ rn,(aA.aH g p aB).length=rn:=⟨_,rfl⟩;have HRN:=lh hrn;rw[hrn] at HNF ⊢;clear hrn;go_wp2;go_ret;exact⟨_,_,rfl,by rw[HRN.out];exact HNF.out,HCF.out⟩
end Go.Proofs.YtkacjmoamgjfpaaGreat
