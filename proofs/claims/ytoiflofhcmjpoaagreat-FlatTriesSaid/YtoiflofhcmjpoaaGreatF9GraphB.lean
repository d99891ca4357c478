/- package graph: contracts of Has, RightPart. Conditions: a graph and a part that lie in memory and read so; a list that dG. -/
import Derived.Test.YtoiflofhcmjpoaaGreatF9Lin
set_option maxHeartbeats 800000
open Go.Act renaming put→Qa
open Go.Value renaming slice→Qb
open List renaming range→Qc
namespace Go.Proofs.YtoiflofhcmjpoaaGreat
open Plain
open Go.RowKit Go.Maps
theorem ai.drewN {own:List Nat} {a w:World} (h:ai own a w) (q:Nat):ai own a (w.drewN q):=by
 induction q with
 | zero=>exact h
 | succ q ih=>exact ih.drew
theorem iW (w:World) (cs ds:Array Value) (t u:TypeId):((w.alloc (.cells cs t)).alloc (.cells ds u)).heap[w.heap.size]?=some (.cells cs t (0,0))/\((w.alloc (.cells cs t)).alloc (.cells ds u)).heap[w.heap.size+1]?=some (.cells ds u (0,0))/\ai [] w ((w.alloc (.cells cs t)).alloc (.cells ds u)):=by
 have hc:=((ai.refl [] (w.alloc (.cells cs t))).alloc (.cells ds u));refine⟨hc.hp (heap_alloc_new w _),?_,((ai.refl [] w).alloc _).alloc _⟩;have:=heap_alloc_new (w.alloc (.cells cs t)) (.cells ds u (0,0));simpa using this
theorem xY (v:Value) (l:List Int) (x:Int) (w:World) (hs:l.Pairwise (·<·)) (hl:l.length<4611686018427387904) (h:aI w v l) :
  Calls Tryz.prog 56 #[v,.int .i64 x] w λe w'=>e=.returned (.bool (decide (x∈l)))/\ai [] w w':=by
 obtain⟨ao,cap,rfl,fx,hm,aS⟩:=h;go_enter Tryz.func56,Tryz.ntmps56;cases l with
 | nil =>
  go_wp2_with (go_at_call 108;refine (Tryz.slices_BinarySearch_int_empty ao cap x _).mono ?_;rintro e w1 ⟨rfl,rfl⟩);go_ret;exact⟨aM (by simp),ai.refl _ _⟩
 | cons y r =>
  obtain⟨b,off,rfl,hc⟩:=aS (by simp);have HS:=lh (show ((y :: r).take (y :: r).length).Pairwise (·<=·) by rw[List.take_length];exact hs.imp (λh=>by omega));have HC:=lh hc;have HL:=lh hl;have HT:=lh (show ((y :: r).take (y :: r).length).contains x=decide (x∈y :: r) by grind);clear hs hc aS fx;generalize y :: r=l at *;go_wp2_with (go_at_call 108;refine (Tryz.slices_BinarySearch_int b off l.length cap l x _ (Nat.le_refl _) HL.out HC.out HS.out).mono ?_;rintro e w1 ⟨rfl,q,rfl⟩);go_ret;exact⟨rfl,(ai.refl [] w).drewN q⟩
theorem jP (vg vp:Value) (g:Gr) (p:Pt) (w:World) (hl:p.v.length<4611686018427387904) (hg:cA w vg g) (hp:dt w vp p) :
  Calls Tryz.prog 17 #[vg,vp] w λe w'=>e=.returned (.int .i64 (p.err g))/\ai [] w w':=by
 have HG:=lh hg;obtain⟨eo,cap,rfl,hn,hm,fx,aS⟩:=hg;obtain⟨v1,v2,rfl,hv,he⟩:=hp;have HV:=lh hv;have HE:=lh he;obtain⟨ao,ac,rfl,-,-,-⟩:=hv;obtain⟨bo,bc,rfl,xW,oJ,gh⟩:=he;have oe:=lh aS;have nG:=lh gh;have uD:=lh xW;clear fx aS gh xW;go_enter Tryz.func17,Tryz.ntmps17;obtain⟨iz,gY,dD⟩:=iW w #[.int .i64 g.n,.slice eo g.e.length cap] #[.slice ao p.v.length ac,.slice bo p.e.length bc] 24 27;have x0:=(cell_of_row _ _ 0 _ _ _ iz).trans (show _=some (Value.int .i64 g.n) from rfl);have x1:=(cell_of_row _ _ 1 _ _ _ iz).trans (show _=some (Qb eo g.e.length cap) from rfl);have y0:=(cell_of_row _ _ 0 _ _ _ gY).trans (show _=some (Qb ao p.v.length ac) from rfl);have y1:=(cell_of_row _ _ 1 _ _ _ gY).trans (show _=some (Qb bo p.e.length bc) from rfl);have X0:=lh x0;have X1:=lh x1;have Y0:=lh y0;have Y1:=lh y1;have aY:=lh dD;clear iz gY dD x0 x1 y0 y1;go_wp2_with fail;refine (oU _ g _ (HG.out.fresh aY.out)).mono ?_;rintro e w2 ⟨rfl,bI⟩;have bU:=lh bI;generalize ((w.alloc (.cells #[.int .i64 g.n,.slice eo g.e.length cap] 24)).alloc (.cells #[.slice ao p.v.length ac,.slice bo p.e.length bc] 27))=w1 at *;generalize w.heap.size+1=pb at *;generalize w.heap.size=gb at *;clear bI;by_cases h1:g.err=0
 ·rw[h1]
  have xI:=lh (show p.err g=if !(Plain.dG p.v g.n&&Plain.dG p.e g.e.length) then 4 else if (Qc p.e.length).all (p.cL g) then 0 else 4 by unfold Pt.err;rw[if_neg (by simp[h1])]);have fB:=lh h1;clear h1;have x0:=bU.out.bO X0.out;have x1:=bU.out.bO X1.out;have y0:=bU.out.bO Y0.out;have y1:=bU.out.bO Y1.out;go_wp2_with fail;refine (sC _ p.v g.n _ hn ((HV.out.fresh aY.out).fresh bU.out)).mono ?_;rintro e w3 ⟨rfl,dK⟩;have b8:=lh (bU.out.tr dK);clear x0 x1 y0 y1 dK;cases hr:Plain.dG p.v g.n with
  | false =>
   have Ev:=lh (show p.err g=4 by rw[xI.out,hr];rfl);have y1:=b8.out.bO Y1.out;have x1:=b8.out.bO X1.out;clear hr;go_wp2;go_ret;exact⟨aR Ev.out.symm,aY.out.tr b8.out⟩
  | true =>
   have WS:=lh hr;have y1:=b8.out.bO Y1.out;have x1:=b8.out.bO X1.out;clear hr;go_wp2_with fail;refine (sC _ p.e g.e.length _ (bF.mk (by omega) (by omega)) ((HE.out.fresh aY.out).fresh b8.out)).mono ?_;rintro e w4 ⟨rfl,gX⟩;have eW:=lh (b8.out.tr gX);clear x1 y1 gX;cases hr:Plain.dG p.e g.e.length with
   | false =>
    have Ev:=lh (show p.err g=4 by rw[xI.out,WS.out,hr];rfl);clear hr;go_wp2;go_ret;exact⟨aR Ev.out.symm,aY.out.tr eW.out⟩
   | true =>
    have Jl:=lh (show p.err g=if (Qc p.e.length).all (p.cL g) then 0 else 4 by rw[xI.out,WS.out,hr];rfl);have sJ:=lh hr;have El:=lh (bK WS.out);have y1:=eW.out.bO Y1.out;clear hr xI;go_wp2;clear y1;go_loopw [31] (λc wr=>∃ k:Nat,k<=p.e.length/\c=.int .i64 k/\ai [] w1 wr/\Hid ((Qc k).all (p.cL g)=true)) (λc _=>p.e.length - (intOf c).toNat);case atStart=>exact⟨0,Nat.zero_le _,rfl,eW.out,rfl⟩
    case round =>
     obtain⟨k,hk,rfl,hc,cX⟩:=hrel;have HC:=lh hc;by_cases aW:k<p.e.length
     ·obtain⟨bb,eO,rfl,oG⟩:=nG.out (by grind)
      have ce:=hc.bO (aY.out.bO (oG k aW));have AF:=cG sJ.out aW;have HF:=lh (λh=>dU (p:=p.cL g) aW h);have HS:=lh (eE (p.cL g) k);obtain⟨ei,mN⟩:∃ ei:Nat,p.e.getD k 0=(ei:Int):=⟨(p.e.getD k 0).toNat,by omega⟩;rw[mN] at ce AF;have xl:ei<g.e.length:=by omega
      obtain⟨eb,cR,rfl,fs,dD⟩:=oe.out ei xl;obtain⟨ea,AM⟩:∃ ea,(g.ends ei).1=ea:=⟨_,rfl⟩;obtain⟨ez,Dx⟩:∃ ez,(g.ends ei).2=ez:=⟨_,rfl⟩;have HR:=lh (show p.cL g k=(decide (ea∈p.v)&&decide (ez∈p.v)) by simp only[Pt.cL,mN,Int.toNat_natCast,AM,Dx]);rw[AM] at fs;rw[Dx] at dD;have c0:=aY.out.bO fs;have c1:=aY.out.bO dD;have C0:=lh c0;have C1:=lh c1;clear oG hc AF mN fs dD c0 c1 AM Dx;go_wp2;clear ce;have Jy:=lh (λwx (hx:ai [] w1 wx)=>(show (λw':World=>w'.cell? ⟨pb,0,none⟩=some (.slice ao p.v.length ac)/\w'.cell? ⟨gb,1,none⟩=some (.slice (some ⟨eb,cR,none⟩) g.e.length cap)/\w'.cell? ⟨eb,cR+ei*2,none⟩=some (.int .i64 ea)/\w'.cell? ⟨eb,cR+ei*2+1,none⟩=some (.int .i64 ez)) wx from⟨hx.bO Y0.out,hx.bO X1.out,hx.bO C0.out,hx.bO C1.out⟩));have aG:=Jy.out wr.drew HC.out.drew;refine al (λw':World=>w'.cell? ⟨pb,0,none⟩=some (.slice ao p.v.length ac)/\w'.cell? ⟨gb,1,none⟩=some (.slice (some ⟨eb,cR,none⟩) g.e.length cap)/\w'.cell? ⟨eb,cR+ei*2,none⟩=some (.int .i64 ea)/\w'.cell? ⟨eb,cR+ei*2+1,none⟩=some (.int .i64 ez)) [0,1,2,3,4,5,6,7,9,10,11,12,13,14,15,16,17,18,20,21] (Way.line [0,1,2,3,4,5,6,7,8,9,10,11,12,13,14,15,16,17,18,19,20,21] .done) (by kernel_rfl) (by kernel_rfl) ?_;simp only[Way.line]
      repeat (refine aj (v:=?_) rfl (by rfl) (by rfl) (λ_ _ _ h=>h) aG (λw' aB=>?_) ?_;rotate_left;(focus ((try dsimp only at aB);go_simp;try with_reducible rfl));simp only[Qa,Z1,Z2,Z3,Z4,Z5,Z6])
      refine aq rfl (by rfl) (by rfl) (λK hK=>?_);go_simp;refine (xY _ p.v ea _ El.out hl ((HV.out.fresh aY.out).fresh HC.out.drew)).mono ?_;rintro e w5 ⟨rfl,dV⟩;have fG:=lh (HC.out.drew.tr dV);have bH:=Jy.out w5 fG.out;refine hK.out _ _ (λ_=>bH) ?_;clear hK K dV aG;obtain⟨q1,EC⟩:∃ q,decide (ea∈p.v)=q:=⟨_,rfl⟩;obtain⟨q2,tX⟩:∃ q,decide (ez∈p.v)=q:=⟨_,rfl⟩;have HQ2:=lh tX;rw[EC,tX] at HR;rw[EC];clear EC tX;cases q1 with
      | false =>
       have Ev:=lh (show p.err g=4 by rw[Jl.out,if_neg (by rw[HF.out (by rw[HR.out];rfl)];decide)]);try simp only[Qa,Z1,Z2,Z3,Z4,Z5,Z6]
       repeat
        first
         | (refine cz rfl (by rfl) (by rfl) (λ_ _ _ h=>h) bH ?_;simp only[Qa,Z1,Z2,Z3,Z4,Z5,Z6])
         | (refine aj (v:=?_) rfl (by rfl) (by rfl) (λ_ _ _ h=>h) bH (λw' aB=>?_) ?_;rotate_left;(focus ((try dsimp only at aB);go_simp;try with_reducible rfl));simp only[Qa,Z1,Z2,Z3,Z4,Z5,Z6])
         | (refine bW rfl (by rfl) (by rfl) bH ?_;simp only[Qa,Z1,Z2,Z3,Z4,Z5,Z6])
       refine ar ?_;go_wp2;go_ret;exact⟨aR Ev.out.symm,aY.out.tr fG.out⟩
      | true =>
       try simp only[Qa,Z1,Z2,Z3,Z4,Z5,Z6]
       repeat (refine aj (v:=?_) rfl (by rfl) (by rfl) (λ_ _ _ h=>h) bH (λw' aB=>?_) ?_;rotate_left;(focus ((try dsimp only at aB);go_simp;try with_reducible rfl));simp only[Qa,Z1,Z2,Z3,Z4,Z5,Z6])
       refine aq rfl (by rfl) (by rfl) (λK hK=>?_);go_simp;refine (xY _ p.v ez _ El.out hl ((HV.out.fresh aY.out).fresh fG.out)).mono ?_;rintro e w6 ⟨rfl,hc6⟩;have fC:=lh (fG.out.tr hc6);have iN:=Jy.out w6 fC.out;refine hK.out _ _ (λ_=>iN) ?_;clear hK K hc6 bH;rw[HQ2.out];cases q2 with
       | false =>
        have Ev:=lh (show p.err g=4 by rw[Jl.out,if_neg (by rw[HF.out (by rw[HR.out];rfl)];decide)]);try simp only[Qa,Z1,Z2,Z3,Z4,Z5,Z6]
        repeat (refine aj (v:=?_) rfl (by rfl) (by rfl) (λ_ _ _ h=>h) iN (λw' aB=>?_) ?_;rotate_left;(focus ((try dsimp only at aB);go_simp;try with_reducible rfl));simp only[Qa,Z1,Z2,Z3,Z4,Z5,Z6])
        refine ar ?_;go_wp2;go_ret;exact⟨aR Ev.out.symm,aY.out.tr fC.out⟩
       | true =>
        try simp only[Qa,Z1,Z2,Z3,Z4,Z5,Z6]
        repeat (refine aj (v:=?_) rfl (by rfl) (by rfl) (λ_ _ _ h=>h) iN (λw' aB=>?_) ?_;rotate_left;(focus ((try dsimp only at aB);go_simp;try with_reducible rfl));simp only[Qa,Z1,Z2,Z3,Z4,Z5,Z6])
        refine ar ?_;clear iN;go_wp2;go_roundw;case rel=>exact⟨k+1,by omega,by go_num,fC.out,lh (by rw[HS.out,HR.out,cX.out];rfl)⟩
        case measure=>simp[intOf];omega
     have e:k=p.e.length:=by omega
     subst e;have HE0:=lh (Jl.out.trans (if_pos cX.out));go_wp2;go_ret;exact⟨aR HE0.out.symm,aY.out.tr HC.out⟩
 have NH:=lh (show p.err g=g.err by grind [Pt.err]);have bn:(g.err==0)=false:=by rw[beq_eq_false_iff_ne];exact h1
 clear h1;go_wp2;go_ret;exact⟨aR NH.out.symm,aY.out.tr bU.out⟩
