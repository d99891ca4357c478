/- package graph: contracts of Has, RightPart. Conditions: a graph and a part that lie in memory and read so; a list that fI. -/
import Derived.Test.YtbkjljffnkdcjaaGreatD9Lin
open Go.Act renaming put→Qa
open List renaming take_length→Qb,range→Qd
open Go.Value renaming slice→Qc
namespace Go.Proofs.YtbkjljffnkdcjaaGreat
open Go.RowKit Go.Maps
theorem ai.drewN {own:List Nat} {a w:World} (h:ai own a w) (q:Nat):ai own a (w.drewN q):=by
 induction q with
 | zero=>exact h
 | succ q ih=>exact ih.drew
theorem dq (w:World) (cs ds:Array Value) (t u:TypeId):((w.alloc (.cells cs t)).alloc (.cells ds u)).heap[w.heap.size]?=some (.cells cs t (0,0))/\((w.alloc (.cells cs t)).alloc (.cells ds u)).heap[w.heap.size+1]?=some (.cells ds u (0,0))/\ai [] w ((w.alloc (.cells cs t)).alloc (.cells ds u)):=by
 have hc:=((ai.refl [] (w.alloc (.cells cs t))).alloc (.cells ds u));refine⟨hc.heap (heap_alloc_new w _) (by simp),?_,((ai.refl [] w).alloc _).alloc _⟩;have:=heap_alloc_new (w.alloc (.cells cs t)) (.cells ds u (0,0));simpa using this
theorem vN (v:Value) (l:List Int) (x:Int) (w:World) (hs:l.Pairwise (·<·)) (hl:l.length<4611686018427387904) (h:aJ w v l) :
  Calls Tryz.prog 84 #[v,.int .i64 x] w fun e w'=>e=.returned (.bool (decide (x∈l)))/\ai [] w w':=by
 obtain⟨ao,cap,rfl,dS,hm,aO⟩:=h
 go_enter Tryz.func84,Tryz.ntmps84
 cases l with
 | nil =>
  go_wp2_with (go_at_call 143;refine (Tryz.slices_BinarySearch_int_empty ao cap x _).mono ?_;rintro e w1 ⟨rfl,rfl⟩)
  go_ret;exact⟨bB (by simp),ai.refl _ _⟩
 | cons y r =>
  obtain⟨b,off,rfl,hc⟩:=aO (by simp);have HS:=lh (show ((y :: r).take (y :: r).length).Pairwise (·<=·) by rw[Qb];exact hs.imp (fun h=>by omega));have HC:=lh hc;have HL:=lh hl;have HT:=lh (show ((y :: r).take (y :: r).length).contains x=decide (x∈y :: r) by rw[Qb];simp);clear hs hc aO dS;generalize y :: r=l at *
  go_wp2_with (go_at_call 143;refine (Tryz.slices_BinarySearch_int b off l.length cap l x _ (Nat.le_refl _) HL.out HC.out HS.out).mono ?_;rintro e w1 ⟨rfl,q,rfl⟩)
  go_ret;exact⟨rfl,(ai.refl [] w).drewN q⟩
set_option maxHeartbeats 800000 in
theorem fw (vg vp:Value) (g:Plain.Gr) (p:Plain.Pt) (w:World) (hl:p.v.length<4611686018427387904) (hg:dU w vg g) (hp:gD w vp p) :
  Calls Tryz.prog 33 #[vg,vp] w fun e w'=>e=.returned (.int .i64 (p.err g))/\ai [] w w':=by
 have HG:=lh hg;obtain⟨eo,cap,rfl,hn,hm,dS,aO⟩:=hg;obtain⟨v1,v2,rfl,hv,he⟩:=hp;have HV:=lh hv;have HE:=lh he;obtain⟨ao,ac,rfl,-,-,-⟩:=hv;obtain⟨bo,bc,rfl,la,vD,bT⟩:=he;have sD:=lh aO;have Ci:=lh bT;have Sv:=lh la;clear dS aO bT la
 go_enter Tryz.func33,Tryz.ntmps33
 obtain⟨eG,fh,cG⟩:=dq w #[.int .i64 g.n,.slice eo g.e.length cap] #[.slice ao p.v.length ac,.slice bo p.e.length bc] 24 27;have x0:=(cell_of_row _ _ 0 _ _ _ eG).trans (show _=some (Value.int .i64 g.n) from rfl);have x1:=(cell_of_row _ _ 1 _ _ _ eG).trans (show _=some (Qc eo g.e.length cap) from rfl);have y0:=(cell_of_row _ _ 0 _ _ _ fh).trans (show _=some (Qc ao p.v.length ac) from rfl);have y1:=(cell_of_row _ _ 1 _ _ _ fh).trans (show _=some (Qc bo p.e.length bc) from rfl);have X0:=lh x0;have X1:=lh x1;have Y0:=lh y0;have Y1:=lh y1;have b8:=lh cG;clear eG fh cG x0 x1 y0 y1
 go_wp2_with fail
 refine (wE _ g _ (HG.out.fresh b8.out)).mono ?_;rintro e w2 ⟨rfl,bG⟩;have cA:=lh bG;generalize ((w.alloc (.cells #[.int .i64 g.n,.slice eo g.e.length cap] 24)).alloc (.cells #[.slice ao p.v.length ac,.slice bo p.e.length bc] 27))=w1 at *;generalize w.heap.size+1=pb at *;generalize w.heap.size=gb at *;clear bG;by_cases h1:g.err=0
 ·rw[h1]
  have BG:=lh (show p.err g=if !(Plain.fI p.v g.n&&Plain.fI p.e g.e.length) then 4 else if (Qd p.e.length).all (p.fe g) then 0 else 4 by unfold Plain.Pt.err;rw[if_neg (by simp[h1])]);have j7:=lh h1;clear h1;have x0:=cA.out.c X0.out;have x1:=cA.out.c X1.out;have y0:=cA.out.c Y0.out;have y1:=cA.out.c Y1.out
  go_wp2_with fail
  refine (wI _ p.v g.n _ hn ((HV.out.fresh b8.out).fresh cA.out)).mono ?_;rintro e w3 ⟨rfl,dB⟩;have dD:=lh (cA.out.t dB);clear x0 x1 y0 y1 dB;cases hr:Plain.fI p.v g.n with
  | false =>
   have RV:=lh (show p.err g=4 by rw[BG.out,hr];rfl);have y1:=dD.out.c Y1.out;have x1:=dD.out.c X1.out;clear hr;go_wp2;go_ret;exact⟨bS RV.out.symm,b8.out.t dD.out⟩
  | true =>
   have SY:=lh hr;have y1:=dD.out.c Y1.out;have x1:=dD.out.c X1.out;clear hr
   go_wp2_with fail
   refine (wI _ p.e g.e.length _ (bn.mk (by omega) (by omega)) ((HE.out.fresh b8.out).fresh dD.out)).mono ?_;rintro e w4 ⟨rfl,iW⟩;have kh:=lh (dD.out.t iW);clear x1 y1 iW;cases hr:Plain.fI p.e g.e.length with
   | false =>
    have RV:=lh (show p.err g=4 by rw[BG.out,SY.out,hr];rfl);clear hr;go_wp2;go_ret;exact⟨bS RV.out.symm,b8.out.t kh.out⟩
   | true =>
    have Yz:=lh (show p.err g=if (Qd p.e.length).all (p.fe g) then 0 else 4 by rw[BG.out,SY.out,hr];rfl);have uV:=lh hr;have BC:=lh (Plain.bY SY.out);have y1:=kh.out.c Y1.out;clear hr BG;go_wp2;clear y1
    go_loopw [31] (fun c wr=>∃ k:Nat,k<=p.e.length/\c=.int .i64 k/\ai [] w1 wr/\Hid ((Qd k).all (p.fe g)=true)) (fun c _=>p.e.length - (intOf c).toNat)
    case atStart=>exact⟨0,Nat.zero_le _,rfl,kh.out,rfl⟩
    case round =>
     obtain⟨k,hk,rfl,hc,cU⟩:=hrel;have HC:=lh hc;by_cases aU:k<p.e.length
     ·obtain⟨bb,rh,rfl,rR⟩:=Ci.out (by intro e;rw[e] at aU;simp at aU)
      have ce:=hc.c (b8.out.c (rR k aU));have Fy:=Plain.ct uV.out aU;have HF:=lh (fun h=>Plain.dY (p:=p.fe g) aU h);have HS:=lh (Plain.eI (p.fe g) k);obtain⟨ei,vG⟩:∃ ei:Nat,p.e.getD k 0=(ei:Int):=⟨(p.e.getD k 0).toNat,by omega⟩;rw[vG] at ce Fy;have xO:ei<g.e.length:=by omega
      obtain⟨eb,eB,rfl,gy,cG⟩:=sD.out ei xO;obtain⟨ea,Jw⟩:∃ ea,(g.ends ei).1=ea:=⟨_,rfl⟩;obtain⟨ez,Fi⟩:∃ ez,(g.ends ei).2=ez:=⟨_,rfl⟩;have HR:=lh (show p.fe g k=(decide (ea∈p.v)&&decide (ez∈p.v)) by simp only[Plain.Pt.fe,vG,Int.toNat_natCast,Jw,Fi]);rw[Jw] at gy;rw[Fi] at cG;have c0:=b8.out.c gy;have c1:=b8.out.c cG;have C0:=lh c0;have C1:=lh c1;clear rR hc Fy vG gy cG c0 c1 Jw Fi;go_wp2;clear ce;have Zf:=lh (fun wx (hx:ai [] w1 wx)=>(show (fun w':World=>w'.cell? ⟨pb,0,none⟩=some (.slice ao p.v.length ac)/\w'.cell? ⟨gb,1,none⟩=some (.slice (some ⟨eb,eB,none⟩) g.e.length cap)/\w'.cell? ⟨eb,eB+ei*2,none⟩=some (.int .i64 ea)/\w'.cell? ⟨eb,eB+ei*2+1,none⟩=some (.int .i64 ez)) wx from⟨hx.c Y0.out,hx.c X1.out,hx.c C0.out,hx.c C1.out⟩));have aD:=Zf.out wr.drew HC.out.drew;refine au (fun w':World=>w'.cell? ⟨pb,0,none⟩=some (.slice ao p.v.length ac)/\w'.cell? ⟨gb,1,none⟩=some (.slice (some ⟨eb,eB,none⟩) g.e.length cap)/\w'.cell? ⟨eb,eB+ei*2,none⟩=some (.int .i64 ea)/\w'.cell? ⟨eb,eB+ei*2+1,none⟩=some (.int .i64 ez)) [0,1,2,3,4,5,6,7,9,10,11,12,13,14,15,16,17,18,20,21] (Way.line [0,1,2,3,4,5,6,7,8,9,10,11,12,13,14,15,16,17,18,19,20,21] .done) (by kernel_rfl) (by kernel_rfl) ?_;simp only[Way.line]
      repeat
       first
        | (refine ar rfl (by rfl) (by rfl) (fun _ _ _ h=>h) aD ?_;simp only[Qa,Z1,Z2,Z3,Z4,Z5,Z6])
        | (refine aq (v:=?_) rfl (by rfl) (by rfl) (fun _ _ _ h=>h) aD (fun w' aK=>?_) ?_;rotate_left;(focus ((try dsimp only at aK);go_simp;try with_reducible rfl));simp only[Qa,Z1,Z2,Z3,Z4,Z5,Z6])
        | (refine ak rfl (by rfl) (by rfl) aD ?_;simp only[Qa,Z1,Z2,Z3,Z4,Z5,Z6])
      refine aC rfl (by rfl) (by rfl) (fun K hK=>?_);go_simp;refine (vN _ p.v ea _ BC.out hl ((HV.out.fresh b8.out).fresh HC.out.drew)).mono ?_;rintro e w5 ⟨rfl,gV⟩;have iP:=lh (HC.out.drew.t gV);have bD:=Zf.out w5 iP.out;refine hK.out _ _ (fun _=>bD) ?_;clear hK K gV aD;obtain⟨q1,UJ⟩:∃ q,decide (ea∈p.v)=q:=⟨_,rfl⟩;obtain⟨q2,zb⟩:∃ q,decide (ez∈p.v)=q:=⟨_,rfl⟩;have HQ2:=lh zb;rw[UJ,zb] at HR;rw[UJ];clear UJ zb;cases q1 with
      | false =>
       have RV:=lh (show p.err g=4 by rw[Yz.out,if_neg (by rw[HF.out (by rw[HR.out];rfl)];decide)])
       try simp only[Qa,Z1,Z2,Z3,Z4,Z5,Z6]
       repeat
        first
         | (refine ar rfl (by rfl) (by rfl) (fun _ _ _ h=>h) bD ?_;simp only[Qa,Z1,Z2,Z3,Z4,Z5,Z6])
         | (refine aq (v:=?_) rfl (by rfl) (by rfl) (fun _ _ _ h=>h) bD (fun w' aK=>?_) ?_;rotate_left;(focus ((try dsimp only at aK);go_simp;try with_reducible rfl));simp only[Qa,Z1,Z2,Z3,Z4,Z5,Z6])
         | (refine ak rfl (by rfl) (by rfl) bD ?_;simp only[Qa,Z1,Z2,Z3,Z4,Z5,Z6])
       refine aB ?_;go_wp2;go_ret;exact⟨bS RV.out.symm,b8.out.t iP.out⟩
      | true =>
       try simp only[Qa,Z1,Z2,Z3,Z4,Z5,Z6]
       repeat
        first
         | (refine ar rfl (by rfl) (by rfl) (fun _ _ _ h=>h) bD ?_;simp only[Qa,Z1,Z2,Z3,Z4,Z5,Z6])
         | (refine aq (v:=?_) rfl (by rfl) (by rfl) (fun _ _ _ h=>h) bD (fun w' aK=>?_) ?_;rotate_left;(focus ((try dsimp only at aK);go_simp;try with_reducible rfl));simp only[Qa,Z1,Z2,Z3,Z4,Z5,Z6])
         | (refine ak rfl (by rfl) (by rfl) bD ?_;simp only[Qa,Z1,Z2,Z3,Z4,Z5,Z6])
       refine aC rfl (by rfl) (by rfl) (fun K hK=>?_);go_simp;refine (vN _ p.v ez _ BC.out hl ((HV.out.fresh b8.out).fresh iP.out)).mono ?_;rintro e w6 ⟨rfl,hc6⟩;have ni:=lh (iP.out.t hc6);have iz:=Zf.out w6 ni.out;refine hK.out _ _ (fun _=>iz) ?_;clear hK K hc6 bD;rw[HQ2.out];cases q2 with
       | false =>
        have RV:=lh (show p.err g=4 by rw[Yz.out,if_neg (by rw[HF.out (by rw[HR.out];rfl)];decide)])
        try simp only[Qa,Z1,Z2,Z3,Z4,Z5,Z6]
        repeat
         first
          | (refine ar rfl (by rfl) (by rfl) (fun _ _ _ h=>h) iz ?_;simp only[Qa,Z1,Z2,Z3,Z4,Z5,Z6])
          | (refine aq (v:=?_) rfl (by rfl) (by rfl) (fun _ _ _ h=>h) iz (fun w' aK=>?_) ?_;rotate_left;(focus ((try dsimp only at aK);go_simp;try with_reducible rfl));simp only[Qa,Z1,Z2,Z3,Z4,Z5,Z6])
          | (refine ak rfl (by rfl) (by rfl) iz ?_;simp only[Qa,Z1,Z2,Z3,Z4,Z5,Z6])
        refine aB ?_;go_wp2;go_ret;exact⟨bS RV.out.symm,b8.out.t ni.out⟩
       | true =>
        try simp only[Qa,Z1,Z2,Z3,Z4,Z5,Z6]
        repeat
         first
          | (refine ar rfl (by rfl) (by rfl) (fun _ _ _ h=>h) iz ?_;simp only[Qa,Z1,Z2,Z3,Z4,Z5,Z6])
          | (refine aq (v:=?_) rfl (by rfl) (by rfl) (fun _ _ _ h=>h) iz (fun w' aK=>?_) ?_;rotate_left;(focus ((try dsimp only at aK);go_simp;try with_reducible rfl));simp only[Qa,Z1,Z2,Z3,Z4,Z5,Z6])
          | (refine ak rfl (by rfl) (by rfl) iz ?_;simp only[Qa,Z1,Z2,Z3,Z4,Z5,Z6])
        refine aB ?_;clear iz;go_wp2
        go_roundw
        case rel=>exact⟨k+1,by omega,by go_num,ni.out,lh (by rw[HS.out,HR.out,cU.out];rfl)⟩
        case measure=>simp[intOf];omega
     have e:k=p.e.length:=by omega
     subst e;have HE0:=lh (Yz.out.trans (if_pos cU.out));go_wp2;go_ret;exact⟨bS HE0.out.symm,b8.out.t HC.out⟩
 have TH:=lh (show p.err g=g.err by unfold Plain.Pt.err;rw[if_pos h1]);have bh:(g.err==0)=false:=by rw[beq_eq_false_iff_ne];exact h1
 clear h1;go_wp2;go_ret;exact⟨bS TH.out.symm,b8.out.t cA.out⟩
end Go.Proofs.YtbkjljffnkdcjaaGreat
