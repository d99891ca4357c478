/- draw's sketch: dt: contract. Conditions: a sketch's graph, drawn vertices, ak, aq, faces' numbers that lie in memory and read so. -/
import Derived.Test.YtoiflofhcmjpoaaGreatD9Draw1
open Go.Value renaming slice→Qa,ownBlock→Qj
open List renaming take_succ_eq_append_getElem→Qb,mem_singleton→Qc,getD→Qe,take_length→Qg,foldl_cons→Qh,length_map→Qi
open Nat renaming zero_le→Qd,le_trans→Qk
open Or renaming inr→Qf,inl→Ql
open Go.Act renaming put→Qm
-- READS ONLY
namespace Go.Proofs.YtoiflofhcmjpoaaGreat
open Go.RowKit Go.Maps
theorem kL:nh 111 162 (.agg #[.slice none 0 0,.slice none 0 0,.slice none 0 0]) 3 72:=⟨Tryz.underlying111,by kernel_rfl,rfl,by decide,by decide⟩
def dF (L:List Plain.a8):List Cell:=L.flatMap fun c=>[.row c.aq,.row c.ends,.row c.ak]
theorem Je (L:List Plain.a8) (c:Plain.a8):dF (L++[c])=dF L++[.row c.aq,.row c.ends,.row c.ak]:=by simp[dF]
namespace Plain
def zz (g:Gr) (on:Int->Bool) (E:List Int) (k:Nat):St × (Int->Option Int):=(E.take k).foldl (zD g on) (St.new E,fun _=>none)
theorem Lu (g:Gr) (on:Int->Bool) (E:List Int):zz g on E E.length=fN g on E:=by unfold zz fN;rw[Qg]
def gZ (on:Int->Bool) (e:Int) (S:St × (Int->Option Int)) (x y:Int):Nat->St × (Int->Option Int)
 | 0=>S
 | 1=>jH on e S x
 | _=>jH on e (jH on e S x) y
theorem J8 {g:Gr} {on:Int->Bool} {E:List Int} {k:Nat} (hk:k<E.length):zz g on E (k+1)=gZ on (E.getD k 0) (zz g on E k) (g.at (E.getD k 0)).1 (g.at (E.getD k 0)).2 2:=by
 unfold zz;rw[Qb hk,List.foldl_append];simp[Qe,hk,gZ,zD]
theorem oE {on:Int->Bool} {E:List Int} {H:Int->Int->Prop} {s:St × (Int->Option Int)} (h:yF on E H s):s.1.all.length<=E.length:=by rw[h.all];exact St.H5 E
def nH (g:Gr) (on:Int->Bool) (F:List (List Int)) (ks l:List Int):a8:=⟨l,cg g on l,iq g F (cg g on l) ks⟩
theorem F8 (g:Gr) (on:Int->Bool) (F:List (List Int)) (E ks:List Int):dt g on F E ks=(fN g on E).1.groups.map (nH g on F ks):=rfl
end Plain
theorem PE (l:List Int):(St.new l).all.Sublist l:=by
 unfold St.new;have h:∀ (l:List Int) (s:St),∃ m,(l.foldl St.put s).all=s.all++m/\m.Sublist l:=by
  intro l
  induction l with
  | nil=>intro s;exact⟨[],by simp,by simp⟩
  | cons x l ih =>
   intro s;obtain⟨m,h1,h2⟩:=ih (s.put x);by_cases hx:x∈s.all
   ·rw[St.iU hx] at h1
    exact⟨m,by rw[Qh,St.iU hx];exact h1,h2.cons x⟩
   rw[St.dX hx] at h1;exact⟨x :: m,by rw[Qh,St.dX hx,h1];simp,h2.cons_cons x⟩
 obtain⟨m,h1,h2⟩:=h l ⟨[],[]⟩;rw[h1];simpa using h2
set_option maxRecDepth 100000 in
set_option maxHeartbeats 8000000 in
theorem vT (sb ob N B:Nat) (vE fv vl vK:Value) (g:Plain.Gr) (on:Int->Bool) (F:List (List Int)) (xs0:List Value) (E ks:List Int) (w:World) (hG:mM w sb g vE N) (hq:w.cell? ⟨sb,2,none⟩=some (.slice (some ⟨ob,0,none⟩) N N)) (nJ:bD w B ob N on)
  (TX:w.cell? ⟨sb,3,none⟩=some fv) (hF:cG g w B N fv xs0 F) (T8:F.length<1000000) (hl:E.length<=1024) (hd:∀ e∈E,0<=e/\e<g.e.length) (h:al w vl E) (nS:ks.length<1000000) (hk:∀ i∈ks,0<=i/\i<F.length) (h2:al w vK ks) :
  Calls Tryz.prog 130 #[.pointer (some ⟨sb,0,none⟩),vl,vK] w fun e w'=>∃ ov xs,e=.returned ov/\bu w' w.heap.size 162 3 ov (Plain.dt g on F E ks).length xs (dF (Plain.dt g on F E ks))/\ag [] w w':=by
 have HG:=lh hG;have HI:=lh h;have HD:=lh hd;have Ri:=lh nJ;have HQ:=lh hq;have KS:=lh TX;have HF:=lh hF;have HK:=lh hk;have HKI:=lh h2;have fZ:=lh hG.small;have KZ:=lh hG.n;have iE:=lh (Plain.Gr.aA hG.err);obtain⟨eo,cap,AL,-,-,dK,aK⟩:=hG.gr;have qZ:=lh aK;have HGS:=lh dK;simp only[Value.agg.injEq,Array.mk.injEq,List.cons.injEq,true_and,and_true] at AL;subst AL;obtain⟨lo,lc,rfl,-,hm,-⟩:=h;obtain⟨ko,kc,rfl,-,hkm,-⟩:=h2;have ku:=lh (fun (k:Nat)=>Plain.yF.fold (g:=g) (on:=on) (E:=E) (E.take k) (Plain.yF.start on E) (fun _ h=>List.mem_of_mem_take h));clear hd hG aK dK nJ hq TX hF hk
 go_enter Tryz.func130,Tryz.ntmps130
 go_wp2_with fail
 refine (RQ _ E w (by omega) HI.out).mono ?_;rintro _ w2 ⟨pb,own,rfl,wH,bA,fX⟩;have tC:=lh wH;have cB:=lh bA;have tV:=lh fX;have mY:=@run_makeMap Tryz.prog;clear wH bA fX
 go_wp2_with fail
 clear mY;have PL:=lh (bK.made w2);have cU:=lh ((ag.refl [] w2).alloc (.map #[] 0));have XY:=lh (show ∀ j∈own,j<w2.heap.size from tC.out.lt);have acU:=lh (tC.out.aD cU.out (by simp));have HW2:=lh cB.out.size;generalize w2.alloc (.map #[] 0)=w3 at *;obtain⟨mp,EH⟩:∃ mp,w2.heap.size=mp:=⟨_,rfl⟩;rw[EH] at PL XY HW2 ⊢;have Zn:=lh (cB.out.t cU.out);clear EH tC cU
 go_loopw [10,12,13,14,24] (fun _ _ _ _ c wr=>∃ k:Nat,k<=E.length/\c=.int .i64 k/\∃ own,cw wr pb own (Plain.zz g on E k).1/\bK wr mp (2*k) (Plain.zz g on E k).2/\Hid (mp ∉ own)/\Hid (∀ j∈own,w.heap.size<=j)/\ag [] w wr) (fun _ _ _ _ c _=>E.length - (intOf c).toNat)
 case atStart=>exact⟨0,Qd _,rfl,own,acU.out,PL.out,lh (fun q=>by have:=XY.out _ q;omega),tV,Zn.out⟩
 case round =>
  obtain⟨k,hk,rfl,NH,wH,oB,ahF,fX,hc⟩:=hrel;have Ly:=lh wH;have Dz:=lh oB;have HC:=lh hc;clear wH oB hc acU PL Zn XY tV cB;by_cases aL:k<E.length
  ·obtain⟨rb,iR,rfl,rc⟩:=al.cellAt HI.out aL
   have cz:=HC.out.c rc;have mj:=HD.out _ (Plain.aQ aL);have Fm:=lh (Plain.J8 (g:=g) (on:=on) aL);have rO:=Plain.aQ aL;have HEM:=lh rO;obtain⟨en,kD⟩:∃ en:Nat,E.getD k 0=en:=⟨(E.getD k 0).toNat,by omega⟩;rw[kD] at cz mj Fm HEM;have lR:en<g.e.length:=by omega
   have tx:en<2000:=by have:=fZ.out;omega
   obtain⟨eb,dO,rfl,gO,cY⟩:=qZ.out en lR;obtain⟨z1,z2⟩:=HGS.out en lR;have hr:=iE.out.2.2.2 en lR;have c0:=HC.out.c gO;have c1:=HC.out.c cY;have q1:=HC.out.c HG.out.c1;have dU:g.at (en:Int)=g.ends en:=by unfold Plain.Gr.at;rw[Int.toNat_natCast]
   rw[dU] at Fm;obtain⟨x,hx⟩:∃ x:Nat,(g.ends en).1=x:=⟨(g.ends en).1.toNat,by omega⟩;obtain⟨y,hy⟩:∃ y:Nat,(g.ends en).2=y:=⟨(g.ends en).2.toNat,by omega⟩;rw[hx] at c0 z1 Fm;rw[hy] at c1 z2 Fm;have HXN:=lh (show x<N by rw[KZ.out,hx] at hr;omega);have HYN:=lh (show y<N by rw[KZ.out,hy] at hr;omega);have IEN:aU (en:Int):=aU.mk (by omega) (by omega);have rn:=lh (Plain.oE (ku.out k));have HIK:=lh (ku.out k);obtain⟨S,hS⟩:∃ S,Plain.zz g on E k=S:=⟨_,rfl⟩;have YQ:=lh hS;have WX:=lh (show Plain.yF on E _ S by rw[<-hS];exact HIK.out);rw[hS] at Ly Dz Fm;clear rc mj kD gO cY hr dU hx hy hS rO HIK rn
   go_wp2_with fail
   have aW:ag [] wr wr.drew:=(ag.refl [] wr).drew;refine ar (ag [] wr) [0,1,2,3,4,5,6,7,8,9,10,11,12,13,14,15,16,17,19,20] (Way.line [0,1,2,3,4,5,6,7,8,9,10,11,12,13,14,15,16,17,20,18,19] .done) (by kernel_rfl) (by kernel_rfl) ?_;simp only[Way.line]
   repeat (refine ai (v:=?_) rfl (by rfl) (by rfl) (fun _ _ _ h=>h) aW (fun w' aI=>?_) ?_;rotate_left;(focus (have gB:=aI.c q1;have gQ:=aI.c c0;have np:=aI.c c1;clear aI;go_simp;try with_reducible rfl));simp only[Qm,Z1,Z2,Z3,Z4,Z5,Z6])
   refine au rfl (by rfl) (by rfl) (fun K hK=>?_);go_simp;have bF:=aW.alloc (.cells #[.int .i64 (x:Int),.int .i64 (y:Int)] 3);refine hK.out _ _ (fun _=>bF) ?_;clear hK K
   try simp only[Qm,Z1,Z2,Z3,Z4,Z5,Z6]
   repeat (refine ai (v:=?_) rfl (by rfl) (by rfl) (fun _ _ _ h=>h) bF (fun w' aI=>?_) ?_;rotate_left;(focus (skip;clear aI;go_simp;try with_reducible rfl));simp only[Qm,Z1,Z2,Z3,Z4,Z5,Z6])
   refine aC ?_;have kF:=lh (show (wr.alloc (.cells #[.int .i64 (x:Int),.int .i64 (y:Int)] 3)).drew.heap[wr.heap.size]?=some (.cells #[.int .i64 (x:Int),.int .i64 (y:Int)] 3 (0,0)) from heap_alloc_new wr _);have iO:=lh (show ag [] wr (wr.alloc (.cells #[.int .i64 (x:Int),.int .i64 (y:Int)] 3)).drew from ((ag.refl [] wr).alloc _).drew);have Vr:=lh (Ly.out.aD iO.out (by simp));have HMA:=lh (Dz.out.aD iO.out (by simp));have XY:=lh Ly.out.lt;clear aW bF q1 c0 c1 cz Ly Dz;generalize (wr.alloc (.cells #[.int .i64 (x:Int),.int .i64 (y:Int)] 3)).drew=wd at *;obtain⟨pl,qM⟩:∃ pl,wr.heap.size=pl:=⟨_,rfl⟩;rw[qM] at kF XY ⊢;have ga:=lh (HC.out.t iO.out);have HWP:=lh (show w.heap.size<=pl by rw[<-qM];exact HC.out.size);clear qM;have HZ:=lh (show ∀ j:Nat,j<2->∃ z:Nat,z<N/\(∀ wx:World,wx.heap[pl]?=some (.cells #[.int .i64 (x:Int),.int .i64 (y:Int)] 3 (0,0))->wx.cell? ⟨pl,j,none⟩=some (.int .i64 (z:Int)))/\aU (z:Int)/\Plain.gZ on en S x y (j+1)=Plain.jH on en (Plain.gZ on en S x y j) z from fun j hj=>by
    rcases (show j=0\/j=1 by omega) with rfl | rfl
    ·exact⟨x,HXN.out,fun wx hx=>(cell_of_row _ _ 0 _ _ _ hx).trans rfl,z1,rfl⟩
    exact⟨y,HYN.out,fun wx hx=>(cell_of_row _ _ 1 _ _ _ hx).trans rfl,z2,rfl⟩)
   have HHI:=lh (show ∀ j:Nat,∃ H,Plain.yF on E H (Plain.gZ on en S x y j) from fun j=>by
    match j with
    | 0=>exact⟨_,WX.out⟩
    | 1=>exact⟨_,WX.out.step HEM.out⟩
    | j+2=>exact⟨_,(WX.out.step HEM.out).step HEM.out⟩)
   rename World=>wo
   go_wp2_with fail
   go_loopw [12,13,14,48] (fun _ _ _ c wr=>∃ j:Nat,j<=2/\c=.int .i64 j/\wr.heap[pl]?=some (.cells #[.int .i64 (x:Int),.int .i64 (y:Int)] 3 (0,0))/\∃ own,cw wr pb own (Plain.gZ on en S x y j).1/\bK wr mp (2*k+j) (Plain.gZ on en S x y j).2/\Hid (mp ∉ own)/\Hid (pl ∉ own)/\Hid (∀ j∈own,w.heap.size<=j)/\ag [] w wr) (fun _ _ _ c _=>2 - (intOf c).toNat)
   case atStart=>exact⟨0,Qd _,rfl,kF.out,NH,Vr.out,HMA.out,ahF,lh (fun q=>by have:=XY.out _ q;omega),fX,ga.out⟩
   case round =>
    obtain⟨j,hj,rfl,eh,zw,wH,oB,yg,SF,Ba,vN⟩:=hrel;have Ak:=lh eh;have sT:=lh wH;have mr:=lh oB;have j9:=lh vN;clear eh wH oB vN Vr HMA ga;by_cases EO:j<2
    ·obtain⟨z,hzN,hzc,ND,hzf⟩:=HZ.out j EO
     have pz:=hzc _ Ak.out;have s2:=j9.out.c HQ.out;have bz:=((Ri.out.base (Qd _)).aD j9.out (by simp)).cell hzN;have V4:=lh hzf;have lA:(j:Int)<2:=by omega
     have hzi:(z:Int)<(N:Int):=by omega
     obtain⟨H,hH⟩:=HHI.out j;have HH:=lh hH;obtain⟨T,hT⟩:∃ T,Plain.gZ on en S x y j=T:=⟨_,rfl⟩;rw[hT] at sT mr V4 HH;have Te:2*k+j<100000:=by omega
     clear hzc hzf hT hH;cases hb:on (z:Int) with
     | true =>
      rw[hb] at bz;have Lj:=lh (show Plain.gZ on en S x y (j+1)=T by rw[V4.out];unfold Plain.jH;rw[hb];simp);clear hb;go_wp2
      go_roundw
      case rel=>exact⟨j+1,by omega,by go_num,Ak.out,zw,by rw[Lj.out];exact sT.out,by rw[Lj.out];exact mr.out.mono (by omega),yg,SF,Ba,j9.out⟩
      case measure=>simp[intOf];omega
     | false =>
      rw[hb] at bz;have YL:=lh hb;clear hb;cases TM:T.2 (z:Int) with
      | some f =>
       have Ty:=lh TM;have Bu:=lh (show Plain.gZ on en S x y (j+1)=(T.1.join f en,T.2) by rw[V4.out];unfold Plain.jH;rw[YL.out,TM];rfl);have Xt:=(HH.out.src (z:Int) f TM).1;have qR:=HD.out f Xt;have IF:aU f:=aU.mk (by omega) (by have:=fZ.out;omega);have U5:=lh (Plain.oE HH.out);clear TM Xt qR
       go_wp2_with (at_lookup;refine eG _ rfl _ _ rfl mr.out rfl ND rfl Ty ?_)
       refine (NR pb zw T.1 f en wr IF IEN (by have:=U5.out;omega) sT.out).mono ?_;rintro _ w6 ⟨rfl,own3,hso3,hc6,nK⟩;have YH:=lh hso3;have ky:=lh hc6;have WE:=lh nK;have wC:=lh mr.out.lt;clear hso3 hc6 nK;go_wp2
       go_roundw
       case rel =>
        refine⟨j+1,by omega,by go_num,ky.out.heap Ak.out SF.out,own3,by rw[Bu.out];exact YH.out,by rw[Bu.out];exact (mr.out.aD ky.out yg.out).mono (by omega),lh (fun q=>?_),lh (fun q=>?_),lh (fun b hb=>?_),j9.out.trans ky.out (fun b hb=>Qf (Ba.out b hb))⟩
        ·rcases WE.out _ q with r | r
         ·exact yg.out r
         have:=wC.out;omega
        ·rcases WE.out _ q with r | r
         ·exact SF.out r
         have:=lt_of_block Ak.out;omega
        rcases WE.out _ hb with r | r
        ·exact Ba.out _ r
        have:=j9.out.size;omega
       case measure=>simp[intOf];omega
      | none =>
       have Ty:=lh TM;have Bu:=lh (show Plain.gZ on en S x y (j+1)=(T.1,fun u=>if u=(z:Int) then some (en:Int) else T.2 u) by rw[V4.out];unfold Plain.jH;rw[YL.out,TM];rfl);clear TM
       go_wp2_with (first
        | (at_lookup;refine di _ rfl _ _ rfl mr.out rfl ND rfl Ty ?_)
        | (at_mapUpdate;refine gF _ rfl _ _ _ rfl mr.out (by unfold maxLen;omega) rfl ND IEN rfl rfl ?_;intro w7 GP Hd;have B9:=lh GP;have HG7:=lh ((ag.refl [mp] wr).grown Hd (fun j hj=>by cases hj;exact Ql (by simp)));clear GP Hd))
       go_roundw
       case rel =>
        refine⟨j+1,by omega,by go_num,HG7.out.heap Ak.out (by rw[Qc];exact mr.out.ne Ak.out),zw,by rw[Bu.out];exact sT.out.aD HG7.out (fun b hb q=>yg.out (by rw[Qc] at q;rw[<-q];exact hb)),by rw[Bu.out];exact B9.out,yg,SF,Ba,j9.out.trans HG7.out (fun b hb=>Qf (by rw[Qc] at hb;have:=HW2.out;omega))⟩
       case measure=>simp[intOf];omega
    have e2:j=2:=by omega
    subst e2;have Lj:=lh (show Plain.zz g on E (k+1)=Plain.gZ on en S x y 2 from Fm.out);have Lo:k<E.length:=aL;have aiQ:=lh (show bK wr mp (2*(k+1)) (Plain.gZ on en S x y 2).2 from mr.out);clear hj EO;go_wp2
    go_roundw
    case rel=>exact⟨k+1,by omega,by go_num,zw,by rw[Lj.out];exact sT.out,by rw[Lj.out];exact aiQ.out,yg,Ba,j9.out⟩
    case measure=>simp[intOf];omega
  have e:k=E.length:=by omega
  subst e;rw[Plain.Lu] at Ly;have rn:=lh (show (Plain.fN g on E).1.all.length<=E.length from Plain.oE (Plain.gw g on E));have Yk:=lh (Plain.gw g on E);clear hk aL Dz
  go_wp2_with fail
  refine (Bi pb NH (Plain.fN g on E).1 wr (by have:=rn.out;omega) Ly.out).mono ?_;rintro _ wG ⟨ov,vs,rfl,hrows,-,hcg⟩;have lQ:=lh hrows;have HCG:=lh (show ag [] w wG from HC.out.trans hcg (fun j hj=>Qf (fX.out j hj)));have Ui:=lh HC.out.size;obtain⟨Gs,XO⟩:∃ Gs,(Plain.fN g on E).1.groups=Gs:=⟨_,rfl⟩;have art:=lh XO;have ac3:∀ l∈Gs,l.Sublist E:=fun l hl=>by
   rw[<-XO] at hl;have h1:=Plain.DO hl;rw[Yk.out.all] at h1;exact h1.trans (PE E)
  have XG:=lh ac3;have HGL:=lh (show Gs.length<=1024 by
   rw[<-XO];have h1:(Plain.fN g on E).1.groups.length<=(Plain.fN g on E).1.all.length:=by
    unfold St.groups St.gr St.cZ;rw[Qi];exact Qk (List.length_filter_le _ _) (by simp)
   have:=rn.out;omega)
  rw[XO] at lQ;obtain⟨vo,vc,rfl⟩:=bk hrows.out;have sM:vs.length=Gs.length:=lQ.out.len;rw[sM];have vH:=lh sM;have HSC:=lh (show Plain.dt g on F E ks=Gs.map (Plain.nH g on F ks) by rw[Plain.F8,XO]);obtain⟨bq,hbq⟩:∃ b,wr.heap.size=b:=⟨_,rfl⟩;rw[hbq] at lQ Ui;clear hrows hcg ac3 XO sM Ly HC hbq
  go_wp2_with fail
  go_loopw [15,17,18,78] (fun c15 _ _ c wr=>∃ i:Nat,i<=Gs.length/\c=.int .i64 i/\∃ xs,bu wr w.heap.size 162 3 c15 i xs (dF ((Gs.take i).map (Plain.nH g on F ks)))/\Hid (∀ k b,k<xs.length->(xs.getD k undef).ownBlock=some b->(∃ j,j<i/\(vs.getD j undef).ownBlock=some b)\/wG.heap.size<=b)/\Hid (∀ b,c15.ownBlock=some b->wG.heap.size<=b)/\ag [] wG wr) (fun _ _ _ c _=>Gs.length - (intOf c).toNat)
  case atStart=>exact⟨0,Qd _,rfl,[],bu.nil _ _ _ _,lh (by simp),lh (by simp[Qj]),ag.refl _ _⟩
  case round =>
   obtain⟨i,hi,rfl,xs,bh,jj,Ew,vN⟩:=hrel;have jg:=lh bh;have j9:=lh vN;have zB:=lh (HCG.out.t vN);obtain⟨uo,uc,rfl⟩:=bh.shape;clear bh vN;by_cases aL:i<Gs.length
   ·obtain⟨gb,gc,egb⟩:=cD lQ.out.out (by rw[vH.out];omega)
    simp only[Qa.injEq] at egb;obtain⟨rfl,-,rfl⟩:=egb;have NA:=lQ.out.rows i (by rw[vH.out];exact aL);have zT:=World.ownsRow.cells lQ.out.out (g:=gb) rfl i (vs.getD i undef) (by simp[Qe,show i<vs.length by rw[vH.out];exact aL]);rw[show (⟨gb,0,none⟩:Addr).add i=⟨gb,i,none⟩ by unfold Addr.add;split <;> simp_all] at zT;have ZH:=lh (show (Gs.take (i+1)).map (Plain.nH g on F ks)=(Gs.take i).map (Plain.nH g on F ks)++[Plain.nH g on F ks (Gs.getD i [])] by
     rw[Qb aL,List.map_append];simp[Qe,aL])
    have hLm:Gs.getD i []∈Gs:=by simp[Qe,aL]
    have nK:=XG.out _ hLm;obtain⟨L,hL⟩:∃ L,Gs.getD i []=L:=⟨_,rfl⟩;rw[hL] at NA ZH nK;have hLl:L.length<=1024:=Qk nK.length_le hl;have hLe:∀ e∈L,0<=e/\e<g.e.length:=fun e he=>HD.out e (nK.subset he);have GS:aj wG bq (vs.getD i undef) L:=⟨NA,fun x hx=>by have:=hLe x hx;exact aU.mk (by omega) (by have:=fZ.out;omega),by omega⟩;obtain⟨u,hu⟩:∃ u,vs.getD i undef=u:=⟨_,rfl⟩;have HU:=lh hu;rw[hu] at GS zT;obtain⟨uo2,uc2,rfl⟩:=GS.shape;have ck:=j9.out.c zT;have M9:=lh GS;have vy:=lh hLe;clear NA zT hLm nK hL hu GS hLe;have Y3:∀ b,(Qa uo2 L.length uc2).ownBlock=some b->bq<=b/\b<wG.heap.size:=fun b hb=>M9.out.low b (by rw[hb];simp);have SH:=lh Y3;have YK:=lh (show ∀ k b,k<xs.length->(xs.getD k undef).ownBlock=some b->(Qa uo2 L.length uc2).ownBlock≠some b from fun k b hk hb e=>by
     rcases jj.out k b hk hb with ⟨j,hj,q⟩ | q
     ·rcases lQ.out.apart j i (by rw[vH.out];omega) (by rw[vH.out];omega) (by omega) with r | r
      ·rw[r] at q;cases q
      exact r (by rw[q,HU.out];exact e.symm)
     have:=(Y3 b e).2;omega)
    have HVN:=lh (show ∀ v∈Plain.cg g on L,0<=v/\v<N from fun v hv=>by
     obtain⟨-,e,he,YT⟩:=Plain.cC.1 hv;have hr:=vy.out e he;have h4:=iE.out.2.2.2 e.toNat (by omega);have hn:=KZ.out;have dU:g.at e=g.ends e.toNat:=rfl;rcases YT with q | q <;> (rw[dU] at q;omega))
    have akU:=lh (show (Plain.cg g on L).length<1000000 by have:=j7 (Plain.jc g on L) HVN.out;have:=fZ.out;omega);have HG':=lh (HG.out.fresh zB.out);have HQ':=lh (zB.out.c HQ.out);have ajS:=lh (zB.out.c KS.out);have aia:=lh (Ri.out.aD zB.out (by simp));have HF':=lh (HF.out.fresh zB.out);have aaE:=lh (M9.out.aD j9.out (by simp));have Bu:=lh ((al.aD HKI.out zB.out (by simp)));clear Y3
    go_wp2_with fail
    refine (Nn sb ob N B _ _ g on L _ HG'.out HQ'.out aia.out (by omega) vy.out aaE.out.ints).mono ?_;rintro _ w6 ⟨v6,rfl,h6,hc6⟩;obtain⟨o6,c6,rfl⟩:=h6.shape;have O6:=lh h6;have ky:=lh hc6;clear h6 hc6
    go_wp2_with fail
    refine (rR sb N B fv _ _ g F xs0 (Plain.cg g on L) ks _ (ky.out.c ajS.out) (HF'.out.fresh ky.out) akU.out nS HVN.out HK.out T8 O6.out.ints (Bu.out.aD ky.out (by simp))).mono ?_;rintro _ w8 ⟨v8,rfl,h8,hc8⟩;obtain⟨o8,c8,rfl⟩:=h8.shape;have aby:=lh ((jg.out.fresh ky.out).fresh hc8);have DB:=lh ((j9.out.t ky.out).t hc8);have O':=lh (show wG.heap.size<=wr.heap.size/\wr.heap.size<=w6.heap.size/\w6.heap.size<=w8.heap.size/\w.heap.size<=w8.heap.size from⟨j9.out.size,ky.out.size,hc8.size,(HCG.out.t DB.out).size⟩);have H1:=lh (((aaE.out.aD ky.out (by simp)).aD hc8 (by simp)).base (B:=w.heap.size) Ui.out);have H2:=lh ((O6.out.aD hc8 (by simp)).base (B:=w.heap.size) zB.out.size);have H3:=lh (h8.base (B:=w.heap.size) (by have:=O'.out;have:=zB.out.size;omega));have Zw:=lh (show ∀ b,(Qa o6 (Plain.cg g on L).length c6).ownBlock=some b->wr.heap.size<=b/\b<w6.heap.size from fun b hb=>O6.out.low b (by rw[hb];simp));have H3L:=lh (show ∀ b,(Qa o8 (Plain.iq g F (Plain.cg g on L) ks).length c8).ownBlock=some b->w6.heap.size<=b from fun b hb=>(h8.low b (by rw[hb];simp)).1);have HXL:=lh (show ∀ k b,k<xs.length->(xs.getD k undef).ownBlock=some b->b<wr.heap.size from fun k b hk hb=>(jg.out.kind hk hb).2.1);have zY:=lh (show ∀ u∈(#[Qa uo2 L.length uc2,Qa o6 (Plain.cg g on L).length c6,Qa o8 (Plain.iq g F (Plain.cg g on L) ks).length c8]:Array Value).toList,u.oneCell'=true from fun u hu=>by
     simp at hu;rcases hu with rfl | rfl | rfl <;> rfl)
    have HI:=lh (show i<68719476736 by have:=HGL.out;omega);have ED:=HGL.out;clear h8 hc8 ck
    go_wp2_with (at_builtin;refine oK kL rfl _ _ rfl (v:=.slice uo i uc) rfl rfl rfl aby.out.out O'.out.2.2.2 rfl zY.out HI.out ?_;intro g4 aav w9 r9 c9 l9;have R9:=lh r9;have C9:=lh c9;have L9:=lh l9;clear r9 c9 l9)
    go_roundw
    case rel =>
     have iu:=aby.out.add (us:=[.slice uo2 L.length uc2,.slice o6 (Plain.cg g on L).length c6,.slice o8 (Plain.iq g F (Plain.cg g on L) ks).length c8]) (ds:=[.row L,.row (Plain.cg g on L),.row (Plain.iq g F (Plain.cg g on L) ks)]) (by decide) rfl rfl (fun j d hj=>by
      rcases j with _ | _ | _ | j
      ·simp at hj;subst hj;exact H1.out
      ·simp at hj;subst hj;exact H2.out
      ·simp at hj;subst hj;exact H3.out
      ·simp at hj) (fun a b ha hb bh=>by
      cases hq:([Qa uo2 L.length uc2,.slice o6 (Plain.cg g on L).length c6,.slice o8 (Plain.iq g F (Plain.cg g on L) ks).length c8].getD a undef).ownBlock with
      | none=>exact Ql rfl
      | some q =>
       refine Qf fun e=>?_;have s8:=O'.out;have u1:=SH.out q;have u2:=Zw.out q;have u3:=H3L.out q;simp at ha hb;rcases (show a=0\/a=1\/a=2 by omega) with rfl | rfl | rfl <;> rcases (show b=0\/b=1\/b=2 by omega) with rfl | rfl | rfl <;>
        first
        | exact bh rfl
        | (
          have hq:=hq;have e:=e.symm;simp only[Qe,List.getElem?_cons_zero,List.getElem?_cons_succ,Option.getD_some] at hq e
          first
          | (have:=u1 hq;have:=u2 e;omega)
          | (have:=u1 hq;have:=u3 e;omega)
          | (have:=u2 hq;have:=u1 e;omega)
          | (have:=u2 hq;have:=u3 e;omega)
          | (have:=u3 hq;have:=u1 e;omega)
          | (have:=u3 hq;have:=u2 e;omega))) (fun a b q ha hb hq e=>by
      have h0:=HXL.out a q ha hq;have s8:=O'.out;simp at hb;rcases b with _ | _ | _ | b
      ·exact YK.out a q ha hq e
      ·have:=(Zw.out q e).1
       omega
      ·have:=H3L.out q e
       omega
      omega) R9.out C9.out
     refine⟨i+1,by omega,by go_num,_,by rw[ZH.out,Je];exact iu,lh (fun k b hk hb=>?_),lh (fun b hb=>?_),DB.out.trans C9.out fun j hj=>Qf ?_⟩
     ·by_cases e1:k<xs.length
      ·rw[cN e1] at hb
       rcases jj.out k b e1 hb with ⟨j,hj,q⟩ | q
       ·exact Ql ⟨j,by omega,q⟩
       exact Qf q
      rw[dE (by omega)] at hb;have s8:=O'.out;rw[List.length_append] at hk;simp only[List.length_cons,List.length_nil] at hk;rcases (show k - xs.length=0\/k - xs.length=1\/k - xs.length=2 by omega) with r | r | r <;> rw[r] at hb
      ·exact Ql ⟨i,by omega,by rw[HU.out];exact hb⟩
      ·exact Qf (by have:=(Zw.out b hb).1;omega)
      exact Qf (by have:=H3L.out b hb;omega)
     ·have s8:=O'.out
      have AD:b=g4:=by simp[Qj] at hb;exact hb.symm
      subst AD;rcases L9.out with r | r
      ·exact Ew.out _ r
      omega
     exact Ew.out j (by simpa using hj)
    case measure=>simp[intOf];omega
   have e:i=Gs.length:=by omega
   subst e;rw[Qg] at jg;have sS:=lh (show (Plain.dt g on F E ks).length=Gs.length by rw[HSC.out,Qi]);clear hi aL;go_wp2;go_ret;exact⟨_,xs,rfl,by rw[sS.out,HSC.out];exact jg.out,zB.out⟩
end Go.Proofs.YtoiflofhcmjpoaaGreat
