/- package graph: contracts of Has, RightPart. Conditions: a graph and a part that lie in memory and read so; a list that gh. -/
import Derived.Test.YtoiflofhcmjpoaaGreatD9Lin
open Go.Act renaming put→Qa
open Go.Value renaming slice→Qb
open List renaming range→Qc
namespace Go.Proofs.YtoiflofhcmjpoaaGreat
open Go.RowKit Go.Maps
theorem ag.drewN {own:List Nat} {a w:World} (h:ag own a w) (q:Nat):ag own a (w.drewN q):=by
 induction q with
 | zero=>exact h
 | succ q ih=>exact ih.drew
theorem eZ (w:World) (cs ds:Array Value) (t u:TypeId):((w.alloc (.cells cs t)).alloc (.cells ds u)).heap[w.heap.size]?=some (.cells cs t (0,0))/\((w.alloc (.cells cs t)).alloc (.cells ds u)).heap[w.heap.size+1]?=some (.cells ds u (0,0))/\ag [] w ((w.alloc (.cells cs t)).alloc (.cells ds u)):=by
 have hc:=((ag.refl [] (w.alloc (.cells cs t))).alloc (.cells ds u));refine⟨hc.hp (heap_alloc_new w _),?_,((ag.refl [] w).alloc _).alloc _⟩;have:=heap_alloc_new (w.alloc (.cells cs t)) (.cells ds u (0,0));simpa using this
theorem tl (v:Value) (l:List Int) (x:Int) (w:World) (hs:l.Pairwise (·<·)) (hl:l.length<4611686018427387904) (h:al w v l) :
  Calls Tryz.prog 56 #[v,.int .i64 x] w fun e w'=>e=.returned (.bool (decide (x∈l)))/\ag [] w w':=by
 obtain⟨ao,cap,rfl,dK,hm,aK⟩:=h
 go_enter Tryz.func56,Tryz.ntmps56
 cases l with
 | nil =>
  go_wp2_with (go_at_call 108;refine (Tryz.slices_BinarySearch_int_empty ao cap x _).mono ?_;rintro e w1 ⟨rfl,rfl⟩)
  go_ret;exact⟨bm (by simp),ag.refl _ _⟩
 | cons y r =>
  obtain⟨b,off,rfl,hc⟩:=aK (by simp);have HS:=lh (show ((y :: r).take (y :: r).length).Pairwise (·<=·) by rw[List.take_length];exact hs.imp (fun h=>by omega));have HC:=lh hc;have HL:=lh hl;have HT:=lh (show ((y :: r).take (y :: r).length).contains x=decide (x∈y :: r) by grind);clear hs hc aK dK;generalize y :: r=l at *
  go_wp2_with (go_at_call 108;refine (Tryz.slices_BinarySearch_int b off l.length cap l x _ (Nat.le_refl _) HL.out HC.out HS.out).mono ?_;rintro e w1 ⟨rfl,q,rfl⟩)
  go_ret;exact⟨rfl,(ag.refl [] w).drewN q⟩
set_option maxHeartbeats 800000 in
theorem eW (vg vp:Value) (g:Plain.Gr) (p:Plain.Pt) (w:World) (hl:p.v.length<4611686018427387904) (hg:dJ w vg g) (hp:fL w vp p) :
  Calls Tryz.prog 17 #[vg,vp] w fun e w'=>e=.returned (.int .i64 (p.err g))/\ag [] w w':=by
 have HG:=lh hg;obtain⟨eo,cap,rfl,hn,hm,dK,aK⟩:=hg;obtain⟨v1,v2,rfl,hv,he⟩:=hp;have HV:=lh hv;have HE:=lh he;obtain⟨ao,ac,rfl,-,-,-⟩:=hv;obtain⟨bo,bc,rfl,wE,sQ,ft⟩:=he;have qZ:=lh aK;have uE:=lh ft;have Ko:=lh wE;clear dK aK ft wE
 go_enter Tryz.func17,Tryz.ntmps17
 obtain⟨fz,ff,cY⟩:=eZ w #[.int .i64 g.n,.slice eo g.e.length cap] #[.slice ao p.v.length ac,.slice bo p.e.length bc] 24 27;have x0:=(cell_of_row _ _ 0 _ _ _ fz).trans (show _=some (Value.int .i64 g.n) from rfl);have x1:=(cell_of_row _ _ 1 _ _ _ fz).trans (show _=some (Qb eo g.e.length cap) from rfl);have y0:=(cell_of_row _ _ 0 _ _ _ ff).trans (show _=some (Qb ao p.v.length ac) from rfl);have y1:=(cell_of_row _ _ 1 _ _ _ ff).trans (show _=some (Qb bo p.e.length bc) from rfl);have X0:=lh x0;have X1:=lh x1;have Y0:=lh y0;have Y1:=lh y1;have b8:=lh cY;clear fz ff cY x0 x1 y0 y1
 go_wp2_with fail
 refine (vm _ g _ (HG.out.fresh b8.out)).mono ?_;rintro e w2 ⟨rfl,bA⟩;have cB:=lh bA;generalize ((w.alloc (.cells #[.int .i64 g.n,.slice eo g.e.length cap] 24)).alloc (.cells #[.slice ao p.v.length ac,.slice bo p.e.length bc] 27))=w1 at *;generalize w.heap.size+1=pb at *;generalize w.heap.size=gb at *;clear bA;by_cases h1:g.err=0
 ·rw[h1]
  have ze:=lh (show p.err g=if !(Plain.gh p.v g.n&&Plain.gh p.e g.e.length) then 4 else if (Qc p.e.length).all (p.eI g) then 0 else 4 by unfold Plain.Pt.err;rw[if_neg (by simp[h1])]);have iE:=lh h1;clear h1;have x0:=cB.out.dp X0.out;have x1:=cB.out.dp X1.out;have y0:=cB.out.dp Y0.out;have y1:=cB.out.dp Y1.out
  go_wp2_with fail
  refine (vk _ p.v g.n _ hn ((HV.out.fresh b8.out).fresh cB.out)).mono ?_;rintro e w3 ⟨rfl,cT⟩;have cU:=lh (cB.out.tr cT);clear x0 x1 y0 y1 cT;cases hr:Plain.gh p.v g.n with
  | false =>
   have OW:=lh (show p.err g=4 by rw[ze.out,hr];rfl);have y1:=cU.out.dp Y1.out;have x1:=cU.out.dp X1.out;clear hr;go_wp2;go_ret;exact⟨bO OW.out.symm,b8.out.tr cU.out⟩
  | true =>
   have Li:=lh hr;have y1:=cU.out.dp Y1.out;have x1:=cU.out.dp X1.out;clear hr
   go_wp2_with fail
   refine (vk _ p.e g.e.length _ (aU.mk (by omega) (by omega)) ((HE.out.fresh b8.out).fresh cU.out)).mono ?_;rintro e w4 ⟨rfl,gR⟩;have iO:=lh (cU.out.tr gR);clear x1 y1 gR;cases hr:Plain.gh p.e g.e.length with
   | false =>
    have OW:=lh (show p.err g=4 by rw[ze.out,Li.out,hr];rfl);clear hr;go_wp2;go_ret;exact⟨bO OW.out.symm,b8.out.tr iO.out⟩
   | true =>
    have Vv:=lh (show p.err g=if (Qc p.e.length).all (p.eI g) then 0 else 4 by rw[ze.out,Li.out,hr];rfl);have s9:=lh hr;have tC:=lh (Plain.bM Li.out);have y1:=iO.out.dp Y1.out;clear hr ze;go_wp2;clear y1
    go_loopw [31] (fun c wr=>∃ k:Nat,k<=p.e.length/\c=.int .i64 k/\ag [] w1 wr/\Hid ((Qc k).all (p.eI g)=true)) (fun c _=>p.e.length - (intOf c).toNat)
    case atStart=>exact⟨0,Nat.zero_le _,rfl,iO.out,rfl⟩
    case round =>
     obtain⟨k,hk,rfl,hc,dH⟩:=hrel;have HC:=lh hc;by_cases aL:k<p.e.length
     ·obtain⟨bb,sX,rfl,qQ⟩:=uE.out (by grind)
      have ce:=hc.dp (b8.out.dp (qQ k aL));have AE:=Plain.bX s9.out aL;have HF:=lh (fun h=>Plain.dL (p:=p.eI g) aL h);have HS:=lh (Plain.eA (p.eI g) k);obtain⟨ei,tx⟩:∃ ei:Nat,p.e.getD k 0=(ei:Int):=⟨(p.e.getD k 0).toNat,by omega⟩;rw[tx] at ce AE;have vZ:ei<g.e.length:=by omega
      obtain⟨eb,dO,rfl,gO,cY⟩:=qZ.out ei vZ;obtain⟨ea,KV⟩:∃ ea,(g.ends ei).1=ea:=⟨_,rfl⟩;obtain⟨ez,I0⟩:∃ ez,(g.ends ei).2=ez:=⟨_,rfl⟩;have HR:=lh (show p.eI g k=(decide (ea∈p.v)&&decide (ez∈p.v)) by simp only[Plain.Pt.eI,tx,Int.toNat_natCast,KV,I0]);rw[KV] at gO;rw[I0] at cY;have c0:=b8.out.dp gO;have c1:=b8.out.dp cY;have C0:=lh c0;have C1:=lh c1;clear qQ hc AE tx gO cY c0 c1 KV I0;go_wp2;clear ce;have Vr:=lh (fun wx (hx:ag [] w1 wx)=>(show (fun w':World=>w'.cell? ⟨pb,0,none⟩=some (.slice ao p.v.length ac)/\w'.cell? ⟨gb,1,none⟩=some (.slice (some ⟨eb,dO,none⟩) g.e.length cap)/\w'.cell? ⟨eb,dO+ei*2,none⟩=some (.int .i64 ea)/\w'.cell? ⟨eb,dO+ei*2+1,none⟩=some (.int .i64 ez)) wx from⟨hx.dp Y0.out,hx.dp X1.out,hx.dp C0.out,hx.dp C1.out⟩));have aW:=Vr.out wr.drew HC.out.drew;refine ar (fun w':World=>w'.cell? ⟨pb,0,none⟩=some (.slice ao p.v.length ac)/\w'.cell? ⟨gb,1,none⟩=some (.slice (some ⟨eb,dO,none⟩) g.e.length cap)/\w'.cell? ⟨eb,dO+ei*2,none⟩=some (.int .i64 ea)/\w'.cell? ⟨eb,dO+ei*2+1,none⟩=some (.int .i64 ez)) [0,1,2,3,4,5,6,7,9,10,11,12,13,14,15,16,17,18,20,21] (Way.line [0,1,2,3,4,5,6,7,8,9,10,11,12,13,14,15,16,17,18,19,20,21] .done) (by kernel_rfl) (by kernel_rfl) ?_;simp only[Way.line]
      repeat (refine ai (v:=?_) rfl (by rfl) (by rfl) (fun _ _ _ h=>h) aW (fun w' aI=>?_) ?_;rotate_left;(focus ((try dsimp only at aI);go_simp;try with_reducible rfl));simp only[Qa,Z1,Z2,Z3,Z4,Z5,Z6])
      refine au rfl (by rfl) (by rfl) (fun K hK=>?_);go_simp;refine (tl _ p.v ea _ tC.out hl ((HV.out.fresh b8.out).fresh HC.out.drew)).mono ?_;rintro e w5 ⟨rfl,eO⟩;have ga:=lh (HC.out.drew.tr eO);have bF:=Vr.out w5 ga.out;refine hK.out _ _ (fun _=>bF) ?_;clear hK K eO aW;obtain⟨q1,RO⟩:∃ q,decide (ea∈p.v)=q:=⟨_,rfl⟩;obtain⟨q2,xI⟩:∃ q,decide (ez∈p.v)=q:=⟨_,rfl⟩;have HQ2:=lh xI;rw[RO,xI] at HR;rw[RO];clear RO xI;cases q1 with
      | false =>
       have OW:=lh (show p.err g=4 by rw[Vv.out,if_neg (by rw[HF.out (by rw[HR.out];rfl)];decide)])
       try simp only[Qa,Z1,Z2,Z3,Z4,Z5,Z6]
       repeat
        first
         | (refine dA rfl (by rfl) (by rfl) (fun _ _ _ h=>h) bF ?_;simp only[Qa,Z1,Z2,Z3,Z4,Z5,Z6])
         | (refine ai (v:=?_) rfl (by rfl) (by rfl) (fun _ _ _ h=>h) bF (fun w' aI=>?_) ?_;rotate_left;(focus ((try dsimp only at aI);go_simp;try with_reducible rfl));simp only[Qa,Z1,Z2,Z3,Z4,Z5,Z6])
         | (refine cV rfl (by rfl) (by rfl) bF ?_;simp only[Qa,Z1,Z2,Z3,Z4,Z5,Z6])
       refine aC ?_;go_wp2;go_ret;exact⟨bO OW.out.symm,b8.out.tr ga.out⟩
      | true =>
       try simp only[Qa,Z1,Z2,Z3,Z4,Z5,Z6]
       repeat (refine ai (v:=?_) rfl (by rfl) (by rfl) (fun _ _ _ h=>h) bF (fun w' aI=>?_) ?_;rotate_left;(focus ((try dsimp only at aI);go_simp;try with_reducible rfl));simp only[Qa,Z1,Z2,Z3,Z4,Z5,Z6])
       refine au rfl (by rfl) (by rfl) (fun K hK=>?_);go_simp;refine (tl _ p.v ez _ tC.out hl ((HV.out.fresh b8.out).fresh ga.out)).mono ?_;rintro e w6 ⟨rfl,hc6⟩;have ky:=lh (ga.out.tr hc6);have jl:=Vr.out w6 ky.out;refine hK.out _ _ (fun _=>jl) ?_;clear hK K hc6 bF;rw[HQ2.out];cases q2 with
       | false =>
        have OW:=lh (show p.err g=4 by rw[Vv.out,if_neg (by rw[HF.out (by rw[HR.out];rfl)];decide)])
        try simp only[Qa,Z1,Z2,Z3,Z4,Z5,Z6]
        repeat (refine ai (v:=?_) rfl (by rfl) (by rfl) (fun _ _ _ h=>h) jl (fun w' aI=>?_) ?_;rotate_left;(focus ((try dsimp only at aI);go_simp;try with_reducible rfl));simp only[Qa,Z1,Z2,Z3,Z4,Z5,Z6])
        refine aC ?_;go_wp2;go_ret;exact⟨bO OW.out.symm,b8.out.tr ky.out⟩
       | true =>
        try simp only[Qa,Z1,Z2,Z3,Z4,Z5,Z6]
        repeat (refine ai (v:=?_) rfl (by rfl) (by rfl) (fun _ _ _ h=>h) jl (fun w' aI=>?_) ?_;rotate_left;(focus ((try dsimp only at aI);go_simp;try with_reducible rfl));simp only[Qa,Z1,Z2,Z3,Z4,Z5,Z6])
        refine aC ?_;clear jl;go_wp2
        go_roundw
        case rel=>exact⟨k+1,by omega,by go_num,ky.out,lh (by rw[HS.out,HR.out,dH.out];rfl)⟩
        case measure=>simp[intOf];omega
     have e:k=p.e.length:=by omega
     subst e;have Zv:=lh (Vv.out.trans (if_pos dH.out));go_wp2;go_ret;exact⟨bO Zv.out.symm,b8.out.tr HC.out⟩
 have SE:=lh (show p.err g=g.err by grind [Plain.Pt.err]);have bh:(g.err==0)=false:=by rw[beq_eq_false_iff_ne];exact h1
 clear h1;go_wp2;go_ret;exact⟨bO SE.out.symm,b8.out.tr cB.out⟩
end Go.Proofs.YtoiflofhcmjpoaaGreat
