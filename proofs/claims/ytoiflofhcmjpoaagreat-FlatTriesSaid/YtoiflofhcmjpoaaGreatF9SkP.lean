/- draw's sketch: cw: contract. Conditions: a sketch's graph, drawn vertices, ak, ag, faces' numbers that lie in memory and read so. -/
import Derived.Test.YtoiflofhcmjpoaaGreatF9RefSol
set_option maxRecDepth 100000
set_option maxHeartbeats 8000000
open Go.Value renaming slice→Qa,ownBlock→Qp
open List renaming getD→Qb,take_succ_eq_append_getElem→Qd,mem_singleton→Qf,drop_eq_getElem_cons→Qg,take_length→Qj,length_cons→Qk,drop_length→Ql,any_eq_true→Qm,foldl_cons→Qn,length_map→Qo
open Nat renaming le_trans→Qc,zero_le→Qh,le_refl→Qq
open Or renaming inr→Qe,inl→Qi
open Go.Act renaming put→Qr
-- READS ONLY
namespace Go.Proofs.YtoiflofhcmjpoaaGreat
open Go.RowKit Go.Maps
theorem mR:qg 111 162 (.agg #[.slice none 0 0,.slice none 0 0,.slice none 0 0]) 3 72:=⟨Tryz.underlying111,by kernel_rfl,rfl,by decide,by decide⟩
def eG (L:List Plain.bh):List Cell:=L.flatMap λc=>[.row c.ag,.row c.ends,.row c.ak]
theorem NF (L:List Plain.bh) (c:Plain.bh):eG (L++[c])=eG L++[.row c.ag,.row c.ends,.row c.ak]:=by simp[eG]
namespace Plain
variable {on:Int->Bool} {E:List Int}
def DU (g:Gr) (on:Int->Bool) (E:List Int) (k:Nat):St × (Int->Option Int):=(E.take k).foldl (Ea g on) (St.new E,λ_=>none)
theorem RP (g:Gr) (on:Int->Bool) (E:List Int):DU g on E E.length=gW g on E:=by unfold DU gW;rw[Qj]
def jI (on:Int->Bool) (e:Int) (S:St × (Int->Option Int)) (x y:Int):Nat->St × (Int->Option Int)
 | 0=>S
 | 1=>lD on e S x
 | _=>lD on e (lD on e S x) y
theorem M9 {g:Gr} {k:Nat} (hk:k<E.length):DU g on E (k+1)=jI on (E.getD k 0) (DU g on E k) (g.at (E.getD k 0)).1 (g.at (E.getD k 0)).2 2:=by
 unfold DU;rw[Qd hk,List.foldl_append];simp[Qb,hk,jI,Ea]
theorem sG {H:Int->Int->Prop} {s:St × (Int->Option Int)} (h:Bu on E H s):s.1.all.length<=E.length:=by rw[h.all];exact St.L5 E
def qK (g:Gr) (on:Int->Bool) (F:List (List Int)) (ks l:List Int):bh:=⟨l,bC g on l,jD g F (bC g on l) ks⟩
theorem JT (g:Gr) (on:Int->Bool) (F:List (List Int)) (E ks:List Int):cw g on F E ks=(gW g on E).1.groups.map (qK g on F ks):=rfl
end Plain
theorem WK (l:List Int):(St.new l).all.Sublist l:=by
 unfold St.new;have h:∀ (l:List Int) (s:St),∃ m,(l.foldl St.put s).all=s.all++m/\m.Sublist l:=by
  intro l
  induction l with
  | nil=>intro s;exact⟨[],by simp,by simp⟩
  | cons x l ih =>
   intro s;obtain⟨m,h1,h2⟩:=ih (s.put x);by_cases hx:x∈s.all
   ·rw[St.kn hx] at h1
    exact⟨m,by rw[Qn,St.kn hx];exact h1,h2.cons x⟩
   rw[St.e8 hx] at h1;exact⟨x :: m,by rw[Qn,St.e8 hx,h1];simp,h2.cons_cons x⟩
 obtain⟨m,h1,h2⟩:=h l ⟨[],[]⟩;rw[h1];simpa using h2
theorem zQ (sb ob N B:Nat) (vE fv vl vK:Value) (g:Plain.Gr) (on:Int->Bool) (F:List (List Int)) (xs0:List Value) (E ks:List Int) (w:World) (hG:pn w sb g vE N) (hq:w.cell? ⟨sb,2,none⟩=some (.slice (some ⟨ob,0,none⟩) N N)) (kP:bT w B ob N on)
  (hq3:w.cell? ⟨sb,3,none⟩=some fv) (hF:cW g w B N fv xs0 F) (hFl:F.length<1000000) (hl:E.length<=1024) (hd:∀ e∈E,0<=e/\e<g.e.length) (h:aI w vl E) (rI:ks.length<1000000) (hk:∀ i∈ks,0<=i/\i<F.length) (h2:aI w vK ks) :
  Calls Tryz.prog 130 #[.pointer (some ⟨sb,0,none⟩),vl,vK] w λe w'=>∃ ov xs,e=.returned ov/\bN w' w.heap.size 162 3 ov (Plain.cw g on F E ks).length xs (eG (Plain.cw g on F E ks))/\ai [] w w':=by
 have HG:=lh hG;have HI:=lh h;have HD:=lh hd;have Nj:=lh kP;have HQ:=lh hq;have V8:=lh hq3;have HF:=lh hF;have HK:=lh hk;have HKI:=lh h2;have iL:=lh hG.small;have Si:=lh hG.n;have fB:=lh (Plain.Gr.aF hG.err);obtain⟨eo,cap,F4,-,-,fx,aS⟩:=hG.gr;have oe:=lh aS;have HGS:=lh fx;simp only[Value.agg.injEq,Array.mk.injEq,List.cons.injEq,true_and,and_true] at F4;subst F4;obtain⟨lo,lc,rfl,-,hm,-⟩:=h;obtain⟨ko,kc,rfl,-,UW,-⟩:=h2;have FY:=lh (λ(k:Nat)=>Plain.Bu.fold (g:=g) (on:=on) (E:=E) (E.take k) (Plain.Bu.start on E) (λ_ h=>List.mem_of_mem_take h));clear hd hG aS fx kP hq hq3 hF hk;go_enter Tryz.func130,Tryz.ntmps130;go_wp2_with fail;refine (Wb _ E w (by omega) HI.out).mono ?_;rintro _ w2 ⟨pb,own,rfl,qU,bI,jY⟩;have El:=lh qU;have bU:=lh bI;have Dn:=lh jY;have ze:=@run_makeMap Tryz.prog;clear qU bI jY;go_wp2_with fail;clear ze;have HMP:=lh (dx.made w2);have b8:=lh ((ai.refl [] w2).alloc (.map #[] 0));have UM:=lh (show ∀ j∈own,j<w2.heap.size from El.out.lt);have aeH:=lh (El.out.aL b8.out (by simp));have HW2:=lh bU.out.size;generalize w2.alloc (.map #[] 0)=w3 at *;obtain⟨mp,Po⟩:∃ mp,w2.heap.size=mp:=⟨_,rfl⟩;rw[Po] at HMP UM HW2 ⊢;have agK:=lh (bU.out.t b8.out);clear Po El b8;go_loopw [10,12,13,14,24] (λ_ _ _ _ c wr=>∃ k:Nat,k<=E.length/\c=.int .i64 k/\∃ own,cI wr pb own (Plain.DU g on E k).1/\dx wr mp (2*k) (Plain.DU g on E k).2/\Hid (mp ∉ own)/\Hid (∀ j∈own,w.heap.size<=j)/\ai [] w wr) (λ_ _ _ _ c _=>E.length - (intOf c).toNat);case atStart=>exact⟨0,Qh _,rfl,own,aeH.out,HMP.out,lh (λq=>by have:=UM.out _ q;omega),Dn,agK.out⟩
 case round =>
  obtain⟨k,hk,rfl,RJ,qU,Hr,anM,jY,hc⟩:=hrel;have vP:=lh qU;have MI:=lh Hr;have HC:=lh hc;clear qU Hr hc aeH HMP agK UM Dn bU;by_cases aW:k<E.length
  ·obtain⟨rb,sy,rfl,rc⟩:=aI.cellAt HI.out aW
   have bX:=HC.out.c rc;have lU:=HD.out _ (Plain.aQ aW);have AE:=lh (Plain.M9 (g:=g) (on:=on) aW);have rA:=Plain.aQ aW;have Yy:=lh rA;obtain⟨en,lJ⟩:∃ en:Nat,E.getD k 0=en:=⟨(E.getD k 0).toNat,by omega⟩;rw[lJ] at bX lU AE Yy;have iM:en<g.e.length:=by omega
   have mN:en<2000:=by have:=iL.out;omega
   obtain⟨eb,cR,rfl,fs,dD⟩:=oe.out en iM;obtain⟨z1,z2⟩:=HGS.out en iM;have hr:=fB.out.2.2.2 en iM;have c0:=HC.out.c fs;have c1:=HC.out.c dD;have q1:=HC.out.c HG.out.c1;have eJ:g.at (en:Int)=g.ends en:=by unfold Plain.Gr.at;rw[Int.toNat_natCast]
   rw[eJ] at AE;obtain⟨x,hx⟩:∃ x:Nat,(g.ends en).1=x:=⟨(g.ends en).1.toNat,by omega⟩;obtain⟨y,hy⟩:∃ y:Nat,(g.ends en).2=y:=⟨(g.ends en).2.toNat,by omega⟩;rw[hx] at c0 z1 AE;rw[hy] at c1 z2 AE;have HXN:=lh (show x<N by rw[Si.out,hx] at hr;omega);have HYN:=lh (show y<N by rw[Si.out,hy] at hr;omega);have IEN:bF (en:Int):=bF.mk (by omega) (by omega);have U1:=lh (Plain.sG (FY.out k));have HIK:=lh (FY.out k);obtain⟨S,hS⟩:∃ S,Plain.DU g on E k=S:=⟨_,rfl⟩;have HSS:=lh hS;have aaO:=lh (show Plain.Bu on E _ S by rw[<-hS];exact HIK.out);rw[hS] at vP MI AE;clear rc lU lJ fs dD hr eJ hx hy hS rA HIK U1;go_wp2_with fail;have aG:ai [] wr wr.drew:=(ai.refl [] wr).drew;refine al (ai [] wr) [0,1,2,3,4,5,6,7,8,9,10,11,12,13,14,15,16,17,19,20] (Way.line [0,1,2,3,4,5,6,7,8,9,10,11,12,13,14,15,16,17,20,18,19] .done) (by kernel_rfl) (by kernel_rfl) ?_;simp only[Way.line]
   repeat (refine aj (v:=?_) rfl (by rfl) (by rfl) (λ_ _ _ h=>h) aG (λw' aB=>?_) ?_;rotate_left;(focus (have fE:=aB.c q1;have fV:=aB.c c0;have kD:=aB.c c1;clear aB;go_simp;try with_reducible rfl));simp only[Qr,Z1,Z2,Z3,Z4,Z5,Z6])
   refine aq rfl (by rfl) (by rfl) (λK hK=>?_);go_simp;have bH:=aG.alloc (.cells #[.int .i64 (x:Int),.int .i64 (y:Int)] 3);refine hK.out _ _ (λ_=>bH) ?_;clear hK K;try simp only[Qr,Z1,Z2,Z3,Z4,Z5,Z6]
   repeat (refine aj (v:=?_) rfl (by rfl) (by rfl) (λ_ _ _ h=>h) bH (λw' aB=>?_) ?_;rotate_left;(focus (skip;clear aB;go_simp;try with_reducible rfl));simp only[Qr,Z1,Z2,Z3,Z4,Z5,Z6])
   refine ar ?_;have wA:=lh (show (wr.alloc (.cells #[.int .i64 (x:Int),.int .i64 (y:Int)] 3)).drew.heap[wr.heap.size]?=some (.cells #[.int .i64 (x:Int),.int .i64 (y:Int)] 3 (0,0)) from heap_alloc_new wr _);have eW:=lh (show ai [] wr (wr.alloc (.cells #[.int .i64 (x:Int),.int .i64 (y:Int)] 3)).drew from ((ai.refl [] wr).alloc _).drew);have Jy:=lh (vP.out.aL eW.out (by simp));have HMA:=lh (MI.out.aL eW.out (by simp));have UM:=lh vP.out.lt;clear aG bH q1 c0 c1 bX vP MI;generalize (wr.alloc (.cells #[.int .i64 (x:Int),.int .i64 (y:Int)] 3)).drew=wd at *;obtain⟨pl,mE⟩:∃ pl,wr.heap.size=pl:=⟨_,rfl⟩;rw[mE] at wA UM ⊢;have fG:=lh (HC.out.t eW.out);have HWP:=lh (show w.heap.size<=pl by rw[<-mE];exact HC.out.size);clear mE;have HZ:=lh (show ∀ j:Nat,j<2->∃ z:Nat,z<N/\(∀ wx:World,wx.heap[pl]?=some (.cells #[.int .i64 (x:Int),.int .i64 (y:Int)] 3 (0,0))->wx.cell? ⟨pl,j,none⟩=some (.int .i64 (z:Int)))/\bF (z:Int)/\Plain.jI on en S x y (j+1)=Plain.lD on en (Plain.jI on en S x y j) z from λj hj=>by
    rcases (show j=0\/j=1 by omega) with rfl | rfl
    ·exact⟨x,HXN.out,λwx hx=>(cell_of_row _ _ 0 _ _ _ hx).trans rfl,z1,rfl⟩
    exact⟨y,HYN.out,λwx hx=>(cell_of_row _ _ 1 _ _ _ hx).trans rfl,z2,rfl⟩)
   have HHI:=lh (show ∀ j:Nat,∃ H,Plain.Bu on E H (Plain.jI on en S x y j) from λj=>by
    match j with
    | 0=>exact⟨_,aaO.out⟩
    | 1=>exact⟨_,aaO.out.step Yy.out⟩
    | j+2=>exact⟨_,(aaO.out.step Yy.out).step Yy.out⟩)
   rename World=>wo;go_wp2_with fail;go_loopw [12,13,14,48] (λ_ _ _ c wr=>∃ j:Nat,j<=2/\c=.int .i64 j/\wr.heap[pl]?=some (.cells #[.int .i64 (x:Int),.int .i64 (y:Int)] 3 (0,0))/\∃ own,cI wr pb own (Plain.jI on en S x y j).1/\dx wr mp (2*k+j) (Plain.jI on en S x y j).2/\Hid (mp ∉ own)/\Hid (pl ∉ own)/\Hid (∀ j∈own,w.heap.size<=j)/\ai [] w wr) (λ_ _ _ c _=>2 - (intOf c).toNat);case atStart=>exact⟨0,Qh _,rfl,wA.out,RJ,Jy.out,HMA.out,anM,lh (λq=>by have:=UM.out _ q;omega),jY,fG.out⟩
   case round =>
    obtain⟨j,hj,rfl,dN,Eh,qU,Hr,Cg,Xa,Hf,AB⟩:=hrel;have DZ:=lh dN;have sI:=lh qU;have sY:=lh Hr;have lY:=lh AB;clear dN qU Hr AB Jy HMA fG;by_cases Nr:j<2
    ·obtain⟨z,hzN,hzc,SZ,hzf⟩:=HZ.out j Nr
     have pz:=hzc _ DZ.out;have s2:=lY.out.c HQ.out;have bz:=((Nj.out.base (Qh _)).aL lY.out (by simp)).cell hzN;have HZF:=lh hzf;have nC:(j:Int)<2:=by omega
     have hzi:(z:Int)<(N:Int):=by omega
     obtain⟨H,hH⟩:=HHI.out j;have HH:=lh hH;obtain⟨T,hT⟩:∃ T,Plain.jI on en S x y j=T:=⟨_,rfl⟩;rw[hT] at sI sY HZF HH;have hkn:2*k+j<100000:=by omega
     clear hzc hzf hT hH;cases hb:on (z:Int) with
     | true =>
      rw[hb] at bz;have Wq:=lh (show Plain.jI on en S x y (j+1)=T by rw[HZF.out];unfold Plain.lD;rw[hb];simp);clear hb;go_wp2;go_roundw;case rel=>exact⟨j+1,by omega,by go_num,DZ.out,Eh,by rw[Wq.out];exact sI.out,by rw[Wq.out];exact sY.out.mono (by omega),Cg,Xa,Hf,lY.out⟩
      case measure=>simp[intOf];omega
     | false =>
      rw[hb] at bz;have Fs:=lh hb;clear hb;cases YW:T.2 (z:Int) with
      | some f =>
       have Yn:=lh YW;have Pe:=lh (show Plain.jI on en S x y (j+1)=(T.1.join f en,T.2) by rw[HZF.out];unfold Plain.lD;rw[Fs.out,YW];rfl);have hfE:=(HH.out.src (z:Int) f YW).1;have De:=HD.out f hfE;have IF:bF f:=bF.mk (by omega) (by have:=iL.out;omega);have HJL:=lh (Plain.sG HH.out);clear YW hfE De;go_wp2_with (at_lookup;refine jX _ rfl _ _ rfl sY.out rfl SZ rfl Yn ?_);refine (Sr pb Eh T.1 f en wr IF IEN (by have:=HJL.out;omega) sI.out).mono ?_;rintro _ w6 ⟨rfl,own3,hso3,hc6,iU⟩;have UG:=lh hso3;have fC:=lh hc6;have Be:=lh iU;have qY:=lh sY.out.lt;clear hso3 hc6 iU;go_wp2;go_roundw;case rel =>
        refine⟨j+1,by omega,by go_num,fC.out.heap DZ.out Xa.out,own3,by rw[Pe.out];exact UG.out,by rw[Pe.out];exact (sY.out.aL fC.out Cg.out).mono (by omega),lh (λq=>?_),lh (λq=>?_),lh (λb hb=>?_),lY.out.trans fC.out (λb hb=>Qe (Hf.out b hb))⟩
        ·rcases Be.out _ q with r | r
         ·exact Cg.out r
         have:=qY.out;omega
        ·rcases Be.out _ q with r | r
         ·exact Xa.out r
         have:=lt_of_block DZ.out;omega
        rcases Be.out _ hb with r | r
        ·exact Hf.out _ r
        have:=lY.out.size;omega
       case measure=>simp[intOf];omega
      | none =>
       have Yn:=lh YW;have Pe:=lh (show Plain.jI on en S x y (j+1)=(T.1,λu=>if u=(z:Int) then some (en:Int) else T.2 u) by rw[HZF.out];unfold Plain.lD;rw[Fs.out,YW];rfl);clear YW;go_wp2_with (first
        | (at_lookup;refine fP _ rfl _ _ rfl sY.out rfl SZ rfl Yn ?_)
        | (at_mapUpdate;refine ph _ rfl _ _ _ rfl sY.out (by unfold maxLen;omega) rfl SZ IEN rfl rfl ?_;intro w7 Su Sp;have XS:=lh Su;have HG7:=lh ((ai.refl [mp] wr).grown Sp (λj hj=>by cases hj;exact Qi (by simp)));clear Su Sp))
       go_roundw;case rel =>
        refine⟨j+1,by omega,by go_num,HG7.out.heap DZ.out (by rw[Qf];exact sY.out.ne DZ.out),Eh,by rw[Pe.out];exact sI.out.aL HG7.out (λb hb q=>Cg.out (by rw[Qf] at q;rw[<-q];exact hb)),by rw[Pe.out];exact XS.out,Cg,Xa,Hf,lY.out.trans HG7.out (λb hb=>Qe (by rw[Qf] at hb;have:=HW2.out;omega))⟩
       case measure=>simp[intOf];omega
    have e2:j=2:=by omega
    subst e2;have Wq:=lh (show Plain.DU g on E (k+1)=Plain.jI on en S x y 2 from AE.out);have RM:k<E.length:=aW;have ao7:=lh (show dx wr mp (2*(k+1)) (Plain.jI on en S x y 2).2 from sY.out);clear hj Nr;go_wp2;go_roundw;case rel=>exact⟨k+1,by omega,by go_num,Eh,by rw[Wq.out];exact sI.out,by rw[Wq.out];exact ao7.out,Cg,Hf,lY.out⟩
    case measure=>simp[intOf];omega
  have e:k=E.length:=by omega
  subst e;rw[Plain.RP] at vP;have U1:=lh (show (Plain.gW g on E).1.all.length<=E.length from Plain.sG (Plain.gP g on E));have Ve:=lh (Plain.gP g on E);clear hk aW MI;go_wp2_with fail;refine (GD pb RJ (Plain.gW g on E).1 wr (by have:=U1.out;omega) vP.out).mono ?_;rintro _ wG ⟨ov,vs,rfl,hrows,-,hcg⟩;have Ex:=lh hrows;have HCG:=lh (show ai [] w wG from HC.out.trans hcg (λj hj=>Qe (jY.out j hj)));have HWR:=lh HC.out.size;obtain⟨Gs,hGs⟩:∃ Gs,(Plain.gW g on E).1.groups=Gs:=⟨_,rfl⟩;have ayx:=lh hGs;have aeB:∀ l∈Gs,l.Sublist E:=λl hl=>by
   rw[<-hGs] at hl;have h1:=Plain.IG hl;rw[Ve.out.all] at h1;exact h1.trans (WK E)
  have HGI:=lh aeB;have HGL:=lh (show Gs.length<=1024 by
   rw[<-hGs];have h1:(Plain.gW g on E).1.groups.length<=(Plain.gW g on E).1.all.length:=by
    unfold St.groups St.gr St.dq;rw[Qo];exact Qc (List.length_filter_le _ _) (by simp)
   have:=U1.out;omega)
  rw[hGs] at Ex;obtain⟨vo,vc,rfl⟩:=bR hrows.out;have Cl:vs.length=Gs.length:=Ex.out.len;rw[Cl];have uk:=lh Cl;have HSC:=lh (show Plain.cw g on F E ks=Gs.map (Plain.qK g on F ks) by rw[Plain.JT,hGs]);obtain⟨bq,hbq⟩:∃ b,wr.heap.size=b:=⟨_,rfl⟩;rw[hbq] at Ex HWR;clear hrows hcg aeB hGs Cl vP HC hbq;go_wp2_with fail;go_loopw [15,17,18,78] (λc15 _ _ c wr=>∃ i:Nat,i<=Gs.length/\c=.int .i64 i/\∃ xs,bN wr w.heap.size 162 3 c15 i xs (eG ((Gs.take i).map (Plain.qK g on F ks)))/\Hid (∀ k b,k<xs.length->(xs.getD k undef).ownBlock=some b->(∃ j,j<i/\(vs.getD j undef).ownBlock=some b)\/wG.heap.size<=b)/\Hid (∀ b,c15.ownBlock=some b->wG.heap.size<=b)/\ai [] wG wr) (λ_ _ _ c _=>Gs.length - (intOf c).toNat);case atStart=>exact⟨0,Qh _,rfl,[],bN.nil _ _ _ _,lh (by simp),lh (by simp[Qp]),ai.refl _ _⟩
  case round =>
   obtain⟨i,hi,rfl,xs,bn,gZ,GN,AB⟩:=hrel;have jq:=lh bn;have lY:=lh AB;have ji:=lh (HCG.out.t AB);obtain⟨uo,uc,rfl⟩:=bn.shape;clear bn AB;by_cases aW:i<Gs.length
   ·obtain⟨gb,gc,egb⟩:=dj Ex.out.out (by rw[uk.out];omega)
    simp only[Qa.injEq] at egb;obtain⟨rfl,-,rfl⟩:=egb;have TA:=Ex.out.rows i (by rw[uk.out];exact aW);have Eg:=World.ownsRow.cells Ex.out.out (g:=gb) rfl i (vs.getD i undef) (by simp[Qb,show i<vs.length by rw[uk.out];exact aW]);rw[show (⟨gb,0,none⟩:Addr).add i=⟨gb,i,none⟩ by unfold Addr.add;split <;> simp_all] at Eg;have ais:=lh (show (Gs.take (i+1)).map (Plain.qK g on F ks)=(Gs.take i).map (Plain.qK g on F ks)++[Plain.qK g on F ks (Gs.getD i [])] by
     rw[Qd aW,List.map_append];simp[Qb,aW])
    have hLm:Gs.getD i []∈Gs:=by simp[Qb,aW]
    have iU:=HGI.out _ hLm;obtain⟨L,hL⟩:∃ L,Gs.getD i []=L:=⟨_,rfl⟩;rw[hL] at TA ais iU;have hLl:L.length<=1024:=Qc iU.length_le hl;have hLe:∀ e∈L,0<=e/\e<g.e.length:=λe he=>HD.out e (iU.subset he);have LJ:aw wG bq (vs.getD i undef) L:=⟨TA,λx hx=>by have:=hLe x hx;exact bF.mk (by omega) (by have:=iL.out;omega),by omega⟩;obtain⟨u,hu⟩:∃ u,vs.getD i undef=u:=⟨_,rfl⟩;have HU:=lh hu;rw[hu] at LJ Eg;obtain⟨uo2,uc2,rfl⟩:=LJ.shape;have ck:=lY.out.c Eg;have AU:=lh LJ;have PH:=lh hLe;clear TA Eg hLm iU hL hu LJ hLe;have hub:∀ b,(Qa uo2 L.length uc2).ownBlock=some b->bq<=b/\b<wG.heap.size:=λb hb=>AU.out.low b (by rw[hb];simp);have HUB:=lh hub;have HUX:=lh (show ∀ k b,k<xs.length->(xs.getD k undef).ownBlock=some b->(Qa uo2 L.length uc2).ownBlock≠some b from λk b hk hb e=>by
     rcases gZ.out k b hk hb with ⟨j,hj,q⟩ | q
     ·rcases Ex.out.apart j i (by rw[uk.out];omega) (by rw[uk.out];omega) (by omega) with r | r
      ·rw[r] at q;cases q
      exact r (by rw[q,HU.out];exact e.symm)
     have:=(hub b e).2;omega)
    have HVN:=lh (show ∀ v∈Plain.bC g on L,0<=v/\v<N from λv hv=>by
     obtain⟨-,e,he,qB⟩:=Plain.bB.1 hv;have hr:=PH.out e he;have h4:=fB.out.2.2.2 e.toNat (by omega);have hn:=Si.out;have eJ:g.at e=g.ends e.toNat:=rfl;rcases qB with q | q <;> (rw[eJ] at q;omega))
    have TO:=lh (show (Plain.bC g on L).length<1000000 by have:=lT (Plain.gR g on L) HVN.out;have:=iL.out;omega);have HG':=lh (HG.out.fresh ji.out);have HQ':=lh (ji.out.c HQ.out);have amc:=lh (ji.out.c V8.out);have amt:=lh (Nj.out.aL ji.out (by simp));have HF':=lh (HF.out.fresh ji.out);have ahD:=lh (AU.out.aL lY.out (by simp));have Pe:=lh ((aI.aL HKI.out ji.out (by simp)));clear hub;go_wp2_with fail;refine (UJ sb ob N B _ _ g on L _ HG'.out HQ'.out amt.out (by omega) PH.out ahD.out.ints).mono ?_;rintro _ w6 ⟨v6,rfl,h6,hc6⟩;obtain⟨o6,c6,rfl⟩:=h6.shape;have UR:=lh h6;have fC:=lh hc6;clear h6 hc6;go_wp2_with fail;refine (wC sb N B fv _ _ g F xs0 (Plain.bC g on L) ks _ (fC.out.c amc.out) (HF'.out.fresh fC.out) TO.out rI HVN.out HK.out hFl UR.out.ints (Pe.out.aL fC.out (by simp))).mono ?_;rintro _ w8 ⟨v8,rfl,h8,su⟩;obtain⟨o8,c8,rfl⟩:=h8.shape;have aiB:=lh ((jq.out.fresh fC.out).fresh su);have DG:=lh ((lY.out.t fC.out).t su);have Vf:=lh (show wG.heap.size<=wr.heap.size/\wr.heap.size<=w6.heap.size/\w6.heap.size<=w8.heap.size/\w.heap.size<=w8.heap.size from⟨lY.out.size,fC.out.size,su.size,(HCG.out.t DG.out).size⟩);have H1:=lh (((ahD.out.aL fC.out (by simp)).aL su (by simp)).base (B:=w.heap.size) HWR.out);have H2:=lh ((UR.out.aL su (by simp)).base (B:=w.heap.size) ji.out.size);have H3:=lh (h8.base (B:=w.heap.size) (by have:=Vf.out;have:=ji.out.size;omega));have H2L:=lh (show ∀ b,(Qa o6 (Plain.bC g on L).length c6).ownBlock=some b->wr.heap.size<=b/\b<w6.heap.size from λb hb=>UR.out.low b (by rw[hb];simp));have H3L:=lh (show ∀ b,(Qa o8 (Plain.jD g F (Plain.bC g on L) ks).length c8).ownBlock=some b->w6.heap.size<=b from λb hb=>(h8.low b (by rw[hb];simp)).1);have HXL:=lh (show ∀ k b,k<xs.length->(xs.getD k undef).ownBlock=some b->b<wr.heap.size from λk b hk hb=>(jq.out.kind hk hb).2.1);have MT:=lh (show ∀ u∈(#[Qa uo2 L.length uc2,Qa o6 (Plain.bC g on L).length c6,Qa o8 (Plain.jD g F (Plain.bC g on L) ks).length c8]:Array Value).toList,u.oneCell'=true from λu hu=>by
     simp at hu;rcases hu with rfl | rfl | rfl <;> rfl)
    have HI:=lh (show i<68719476736 by have:=HGL.out;omega);have EX:=HGL.out;clear h8 su ck;go_wp2_with (at_builtin;refine pj mR rfl _ _ rfl (v:=.slice uo i uc) rfl rfl rfl aiB.out.out Vf.out.2.2.2 rfl MT.out HI.out ?_;intro g4 ahh w9 r9 c9 l9;have R9:=lh r9;have C9:=lh c9;have L9:=lh l9;clear r9 c9 l9);go_roundw;case rel =>
     have mC:=aiB.out.add (us:=[.slice uo2 L.length uc2,.slice o6 (Plain.bC g on L).length c6,.slice o8 (Plain.jD g F (Plain.bC g on L) ks).length c8]) (ds:=[.row L,.row (Plain.bC g on L),.row (Plain.jD g F (Plain.bC g on L) ks)]) (by decide) rfl rfl (λj d hj=>by
      rcases j with _ | _ | _ | j
      ·simp at hj;subst hj;exact H1.out
      ·simp at hj;subst hj;exact H2.out
      ·simp at hj;subst hj;exact H3.out
      ·simp at hj) (λa b ha hb bn=>by
      cases hq:([Qa uo2 L.length uc2,.slice o6 (Plain.bC g on L).length c6,.slice o8 (Plain.jD g F (Plain.bC g on L) ks).length c8].getD a undef).ownBlock with
      | none=>exact Qi rfl
      | some q =>
       refine Qe λe=>?_;have s8:=Vf.out;have u1:=HUB.out q;have u2:=H2L.out q;have u3:=H3L.out q;simp at ha hb;rcases (show a=0\/a=1\/a=2 by omega) with rfl | rfl | rfl <;> rcases (show b=0\/b=1\/b=2 by omega) with rfl | rfl | rfl <;>
        first
        | exact bn rfl
        | (
          have hq:=hq;have e:=e.symm;simp only[Qb,List.getElem?_cons_zero,List.getElem?_cons_succ,Option.getD_some] at hq e;first
          | (have:=u1 hq;have:=u2 e;omega)
          | (have:=u1 hq;have:=u3 e;omega)
          | (have:=u2 hq;have:=u1 e;omega)
          | (have:=u2 hq;have:=u3 e;omega)
          | (have:=u3 hq;have:=u1 e;omega)
          | (have:=u3 hq;have:=u2 e;omega))) (λa b q ha hb hq e=>by
      have h0:=HXL.out a q ha hq;have s8:=Vf.out;simp at hb;rcases b with _ | _ | _ | b
      ·exact HUX.out a q ha hq e
      ·have:=(H2L.out q e).1
       omega
      ·have:=H3L.out q e
       omega
      omega) R9.out C9.out
     refine⟨i+1,by omega,by go_num,_,by rw[ais.out,NF];exact mC,lh (λk b hk hb=>?_),lh (λb hb=>?_),DG.out.trans C9.out λj hj=>Qe ?_⟩
     ·by_cases e1:k<xs.length
      ·rw[cP e1] at hb
       rcases gZ.out k b e1 hb with ⟨j,hj,q⟩ | q
       ·exact Qi ⟨j,by omega,q⟩
       exact Qe q
      rw[dS (by omega)] at hb;have s8:=Vf.out;rw[List.length_append] at hk;simp only[Qk,List.length_nil] at hk;rcases (show k - xs.length=0\/k - xs.length=1\/k - xs.length=2 by omega) with r | r | r <;> rw[r] at hb
      ·exact Qi ⟨i,by omega,by rw[HU.out];exact hb⟩
      ·exact Qe (by have:=(H2L.out b hb).1;omega)
      exact Qe (by have:=H3L.out b hb;omega)
     ·have s8:=Vf.out
      have PE:b=g4:=by simp[Qp] at hb;exact hb.symm
      subst PE;rcases L9.out with r | r
      ·exact GN.out _ r
      omega
     exact GN.out j (by simpa using hj)
    case measure=>simp[intOf];omega
   have e:i=Gs.length:=by omega
   subst e;rw[Qj] at jq;have CQ:=lh (show (Plain.cw g on F E ks).length=Gs.length by rw[HSC.out,Qo]);clear hi aW;go_wp2;go_ret;exact⟨_,xs,rfl,by rw[CQ.out,HSC.out];exact jq.out,ji.out⟩
namespace Plain
variable {R:List bh} {j i:Nat}
def pick:List bh->Option Nat
 | []=>none
 | c :: l=>if c.ak.length=1 then some 0 else (pick l).map (·+1)
def fZ (R:List bh) (j:Nat):Nat:=match pick (R.drop j) with | some k=>j+k | none=>0
def lost (R:List bh):Bool:=R.any λc=>decide (c.ak.length=0)
def choose (R:List bh):Option Nat:=if lost R then none else some (fZ R 0)
theorem GR (hj:j<R.length):R.drop j=R.getD j ⟨[],[],[]⟩ :: R.drop (j+1):=by
 rw[Qg hj]
 grind
theorem JO (hj:j<R.length) (h:(R.getD j ⟨[],[],[]⟩).ak.length=1):fZ R j=j:=by
 grind [fZ,GR,pick]
theorem He (hj:j<R.length) (h:(R.getD j ⟨[],[],[]⟩).ak.length≠1):fZ R j=fZ R (j+1):=by
 grind [fZ,GR,pick,aI.drop]
theorem JB (R:List bh):fZ R R.length=0:=by
 unfold fZ;rw[Ql];rfl
theorem Uf (hj:j<R.length) (h:(R.getD j ⟨[],[],[]⟩).ak.length=0):choose R=none:=by
 grind [choose,lost]
theorem M5 (h:∀ j,0<=j->j<R.length->(R.getD j ⟨[],[],[]⟩).ak.length≠0):choose R=some (fZ R 0):=by
 unfold choose lost;refine if_neg λq=>?_;obtain⟨c,hc,h2⟩:=Qm.1 q;obtain⟨j,hj,rfl⟩:=List.mem_iff_getElem.1 hc
 grind
theorem Ml:∀ {L:List bh} {k:Nat},pick L=some k->k<L.length
 | [],_,h=>by cases h
 | c :: l,k,h=>by
  rw[pick] at h;split at h
  ·cases h;simp
  cases hq:pick l with
  | none=>rw[hq] at h;cases h
  | some m =>
   rw[hq] at h;cases h;have:=Ml hq;simp only[Qk];omega
theorem O9 (h:0<R.length) (j:Nat):fZ R j<R.length:=by
 unfold fZ;cases hq:pick (R.drop j) with
 | none=>exact h
 | some k =>
  have h1:=Ml hq
  grind
theorem vX (h0:R≠[]) (h:choose R=some i):i<R.length/\(R.getD i ⟨[],[],[]⟩).ak≠[]:=by
 unfold choose at h;split at h
 ·cases h
 rename_i hn;cases h;have hl:fZ R 0<R.length:=O9 (List.length_pos_iff.2 h0) 0;refine⟨hl,λq=>hn ?_⟩;exact Qm.2 ⟨_,by rw[show R.getD (fZ R 0) ⟨[],[],[]⟩=R[fZ R 0] by simp[Qb,hl]] at q;exact List.getElem_mem hl,decide_eq_true (by rw[show R.getD (fZ R 0) ⟨[],[],[]⟩=R[fZ R 0] by simp[Qb,hl]] at q;rw[q];rfl)⟩
end Plain
theorem DW {R:List Plain.bh} {j:Nat} (hj:j<R.length):(eG R)[3*j]?=some (.row (R.getD j ⟨[],[],[]⟩).ag)/\(eG R)[3*j+1]?=some (.row (R.getD j ⟨[],[],[]⟩).ends)/\(eG R)[3*j+2]?=some (.row (R.getD j ⟨[],[],[]⟩).ak):=by
 induction R generalizing j with
 | nil=>simp at hj
 | cons c l ih =>
  have hs:eG (c :: l)=.row c.ag :: .row c.ends :: .row c.ak :: eG l:=by simp[eG]
  rw[hs];cases j with
  | zero=>exact⟨rfl,rfl,rfl⟩
  | succ j =>
   grind
def tk (R:List Plain.bh):Value:=match Plain.choose R with | some i=>.tuple #[.int .i64 (i:Nat),.bool true] | none=>.tuple #[.int .i64 0,.bool false]
theorem tC {R:List Plain.bh} {i:Nat} (h:Plain.choose R=some i):tk R=.tuple #[.int .i64 (i:Nat),.bool true]:=by grind [tk]
theorem uw {R:List Plain.bh} (h:Plain.choose R=none):tk R=.tuple #[.int .i64 0,.bool false]:=by grind [tk]
theorem Jp (sb B:Nat) (rv:Value) (ys:List Value) (R:List Plain.bh) (w:World) (hRl:R.length<1000000) (hq:w.cell? ⟨sb,4,none⟩=some rv) (hN:bN w B 162 3 rv R.length ys (eG R)) :
  Calls Tryz.prog 83 #[.pointer (some ⟨sb,0,none⟩)] w λe w'=>e=.returned (tk R)/\w'=w:=by
 have HQ:=lh hq;have HN:=lh hN;obtain⟨ro,rc,rfl⟩:=hN.shape;clear hN;go_enter Tryz.func83,Tryz.ntmps83;go_wp2_with fail;go_loopw [4,5] (λc4 c5 wr=>∃ j b:Nat,j<=R.length/\b<1000000/\c4=.int .i64 b/\c5=.int .i64 ((j:Int) - 1)/\Hid (b=Plain.fZ R j)/\Hid (∀ i,j<=i->i<R.length->(R.getD i ⟨[],[],[]⟩).ak.length≠0)/\wr=w) (λ_ c _=>(intOf c+1).toNat);case atStart=>exact⟨R.length,0,Qq _,by omega,rfl,rfl,lh (Plain.JB R).symm,lh (by omega),rfl⟩
 case round =>
  obtain⟨j,b,hj,hb,rfl,rfl,HP,HZ,rfl⟩:=hrel;rcases j with _ | j
  ·have SH:=lh (Plain.M5 HZ.out)
   go_wp2;refine bodyPost_ret (v:=.tuple #[.int .i64 b,.bool true]) (by simp[results,Tryz.results83,go_sem]) rfl ?_;refine⟨?_,rfl⟩;rw[tC SH.out,<-HP.out]
  have XF:j<R.length:=by omega
  have hjj:(j:Int)<(R.length:Int):=by omega
  rw[show ((j+1:Nat):Int) - 1=(j:Int) by omega];obtain⟨rb,rc2,Y'⟩:=dj HN.out.out (by omega);simp only[Qa.injEq,true_and] at Y';obtain⟨rfl,rfl⟩:=Y';have aS:=HN.out.cell (k:=3*j+2) (by rw[HN.out.cells];omega);have aT:=HN.out.row (DW XF).2.2;obtain⟨uo,uc,eu⟩:=aT.shape;rw[eu] at aS;have A8:=aT.2.2;have zL:wr.cell? ⟨rb,j*3+2,none⟩=some (.slice uo (R.getD j ⟨[],[],[]⟩).ak.length uc):=by grind
  have H0:=lh (λh=>Plain.Uf (R:=R) XF h);have H1:=lh (λh=>Plain.JO (R:=R) XF h);have H2:=lh (λh=>Plain.He (R:=R) XF h);have HZ2:=lh (λ(h:(R.getD j ⟨[],[],[]⟩).ak.length≠0) i (h1:j<=i) (h2:i<R.length)=>(show (R.getD i ⟨[],[],[]⟩).ak.length≠0 from by
   by_cases e:i=j
   ·rw[e];exact h
   exact HZ.out i (by omega) h2))
  obtain⟨n,hn⟩:∃ n,(R.getD j ⟨[],[],[]⟩).ak.length=n:=⟨_,rfl⟩;rw[hn] at zL A8 H0 H1 H2 HZ2;clear aS aT eu hn;rcases n with _ | _ | n
  ·have SH:=lh (H0.out rfl)
   go_wp2;refine bodyPost_ret (v:=.tuple #[.int .i64 0,.bool false]) (by simp[results,Tryz.results83,go_sem]) rfl ?_;refine⟨?_,rfl⟩;rw[uw SH.out]
  ·have SH:=lh (H1.out rfl)
   have HZ3:=lh (HZ2.out (by omega));go_wp2;go_roundw;case rel=>exact⟨j,j,by omega,by omega,rfl,by go_num,lh SH.out.symm,HZ3,trivial⟩
   case measure=>simp[intOf]
  have SH:=lh (H2.out (by omega));have HZ3:=lh (HZ2.out (by omega));have hn0:((n+1+1:Nat):Int)≠0:=by omega
  have J8:((n+1+1:Nat):Int)≠1:=by omega
  generalize n+1+1=m at *;go_wp2;go_roundw;case rel=>exact⟨j,b,by omega,hb,rfl,by go_num,lh (by rw[HP.out,SH.out]),HZ3,trivial⟩
  case measure=>simp[intOf]
namespace Plain
variable {g:Gr} {p:Pt} {a v x shut:Int} {f:Int->Option Int} {q L:List Int} {fuel k:Nat}
def yN (g:Gr) (shut c:Int):List Int->(Int->Option Int) × List Int->(Int->Option Int) × List Int
 | [],s=>s
 | d :: L,s=>yN g shut c L (if (s.1 (g.head d)).isSome=true\/g.head d=shut then s else (λy=>if y=g.head d then some (c+1) else s.1 y,s.2++[g.head d]))
def Aj (g:Gr) (p:Pt) (shut:Int):Nat->(Int->Option Int)->List Int->(Int->Option Int)
 | 0,f,_=>f
 | _+1,f,[]=>f
 | n+1,f,v :: q=>Aj g p shut n (yN g shut ((f v).getD 0) (p.ah.filter λd=>decide (g.tail d=v)) (f,q)).1 (yN g shut ((f v).getD 0) (p.ah.filter λd=>decide (g.tail d=v)) (f,q)).2
def eB (g:Gr) (p:Pt) (shut a:Int):Int->Option Int:=Aj g p shut (2*p.v.length+2) (λy=>if y=a then some 0 else none) [a]
structure pX (g:Gr) (p:Pt) (a:Int) (f:Int->Option Int):Prop where
 base:f a=some 0
 zero:∀ u c,f u=some c->u≠a->1<=c
 prev:∀ u c,f u=some c->u≠a->∃ d∈p.ah,g.tail d=u/\f (g.head d)=some (c - 1)
 low:∀ u c,f u=some c->0<=c
theorem pX.start (g:Gr) (p:Pt) (a:Int):pX g p a (λy=>if y=a then some 0 else none):=by
 refine⟨by simp,λu c h hn=>?_,λu c h hn=>?_,λu c h=>?_⟩
 ·simp[hn] at h
 ·simp[hn] at h
 by_cases e:u=a
 ·simp[e] at h;omega
 simp[e] at h
theorem pX.add {c d:Int} (h:pX g p a f) (hd:d∈p.ah) (ht:g.tail d=v) (hx:g.head d=x) (hv:f v=some c) (hf:f x=none):pX g p a (λy=>if y=x then some (c+1) else f y):=by
 have hax:a≠x:=λe=>by rw[<-e,h.base] at hf;cases hf
 have hvx:v≠x:=λe=>by rw[<-e,hv] at hf;cases hf
 have hc:=h.low v c hv;have keep:∀ z e,f z=some e->(if z=x then some (c+1) else f z)=some e:=λz e he=>by
  rw[if_neg (λq=>by rw[q,hf] at he;cases he)];exact he
 refine⟨keep _ _ h.base,λu e hu hn=>?_,λu e hu hn=>?_,λu e hu=>?_⟩
 ·by_cases q:u=x
  ·simp[q] at hu;omega
  exact h.zero u e (by simpa[q] using hu) hn
 ·by_cases q:u=x
  ·simp[q] at hu
   subst hu;refine⟨aH d,bD hd,by rw[az,hx,q],?_⟩;have h1:g.head (aH d)=v:=by rw[<-az,bg,ht]
   show (if g.head (aH d)=x then some (c+1) else f (g.head (aH d)))=_;rw[h1,keep v c hv];congr 1;omega
  obtain⟨d',h1,h2,h3⟩:=h.prev u e (by simpa[q] using hu) hn;exact⟨d',h1,h2,keep _ _ h3⟩
 by_cases q:u=x
 ·simp[q] at hu;omega
 exact h.low u e (by simpa[q] using hu)
def J2 (g:Gr) (p:Pt) (shut a:Int) (f:Int->Option Int) (q:List Int) (fuel:Nat):Prop:=Aj g p shut fuel f q=eB g p shut a/\pX g p a f
def N8 (g:Gr) (p:Pt) (shut a:Int) (f:Int->Option Int) (v:Int) (c:Int) (q L:List Int) (k fuel:Nat):Prop :=
 f v=some c/\Aj g p shut (fuel - 1) (yN g shut c (L.drop k) (f,q)).1 (yN g shut c (L.drop k) (f,q)).2=eB g p shut a/\pX g p a f
theorem J2.inner {c:Int} (h:J2 g p shut a f (v :: q) fuel) (hv:f v=some c) (h1:1<=fuel):N8 g p shut a f v c q (p.ah.filter λd=>decide (g.tail d=v)) 0 fuel:=by
 obtain⟨n,rfl⟩:∃ n,fuel=n+1:=⟨fuel - 1,by omega⟩;have h2:=h.1;rw[Aj,hv] at h2;exact⟨hv,h2,h.2⟩
theorem vk (hk:k<L.length):L.drop k=L.getD k 0 :: L.drop (k+1):=by
 rw[Qg hk];simp[Qb,hk]
theorem N8.skip {c:Int} (h:N8 g p shut a f v c q L k fuel) (hk:k<L.length) (hx:g.head (L.getD k 0)=shut\/f (g.head (L.getD k 0))≠none):N8 g p shut a f v c q L (k+1) fuel:=by
 obtain⟨h1,h2,h3⟩:=h;rw[vk hk,yN,if_pos (hx.symm.imp (λr=>Option.isSome_iff_ne_none.2 r) id)] at h2;exact⟨h1,h2,h3⟩
theorem N8.add {c:Int} (h:N8 g p shut a f v c q L k fuel) (hk:k<L.length) (hx:g.head (L.getD k 0)=x) (hd:L.getD k 0∈p.ah) (ht:g.tail (L.getD k 0)=v) (hs:x≠shut) (hf:f x=none):N8 g p shut a (λy=>if y=x then some (c+1) else f y) v c (q++[x]) L (k+1) fuel:=by
 obtain⟨h1,h2,h3⟩:=h;rw[vk hk,yN,hx,if_neg (by simp[hf,hs])] at h2;refine⟨?_,h2,h3.add hd ht hx h1 hf⟩;show (if v=x then some (c+1) else f v)=some c;rw[if_neg (λe=>by rw[<-e,h1] at hf;cases hf)];exact h1
theorem N8.outer {c:Int} (h:N8 g p shut a f v c q L L.length fuel):J2 g p shut a f q (fuel - 1):=by
 obtain⟨h1,h2,h3⟩:=h;rw[Ql] at h2;exact⟨h2,h3⟩
theorem J2.last (h:J2 g p shut a f [] fuel):f=eB g p shut a:=by
 rw[<-h.1];cases fuel <;> rfl
end Plain
theorem Om (vg:Value) (g:Plain.Gr) (p:Plain.Pt) (mb n:Nat) (a shut:Int) (w:World) (hn:n<1000000) (_hV:p.v.length<=1000000) (hr:p.err g=0) (ha:a∈p.v) (hia:bF a) (_hs:bF shut) (hg:cA w vg g) (hd:SMap w mb n (λv=>p.ah.filter λd=>decide (g.tail d=v))) :
  Calls Tryz.prog 169 #[vg,.map (some mb),.int .i64 a,.int .i64 shut] w λe w'=>∃ b m,e=.returned (.map (some b))/\dx w' b m (Plain.eB g p shut a)/\(∀ v,Plain.eB g p shut a v≠none↔Plain.bS g p shut a v)/\Plain.pX g p a (Plain.eB g p shut a)/\(∀ v c,Plain.eB g p shut a v=some c->c<=p.v.length)/\ai [] w w'/\w.heap.size<=b/\m<=p.v.length:=by
 obtain⟨eo,cap,rfl,kr,hm,fx,aS⟩:=id hg;have HG:=lh hg;have HSD:=lh hd;have ze:=@run_makeMap Tryz.prog;have HM:=lh (dx.made (w.alloc (.cells #[.int .i64 g.n,.slice eo g.e.length cap] 24)));have TS:=lh ((ai.refl [] w).alloc (.cells #[.int .i64 g.n,.slice eo g.e.length cap] 24));have UY:=lh (heap_alloc_new w (.cells #[.int .i64 g.n,.slice eo g.e.length cap] 24 (0,0)));clear aS fx hg hd kr;have acI:(w.alloc (.cells #[.int .i64 g.n,.slice eo g.e.length cap] 24)).heap.size=w.heap.size+1:=by simp
 rw[acI] at HM;have aoh:=lh acI;clear acI;go_enter Tryz.func169,Tryz.ntmps169;go_wp2_with (refine BS rfl _ _ _ rfl HM.out (by unfold maxLen;omega) rfl hia (bF.mk (by omega) (by omega)) rfl rfl ?_;intro w2 mD Lg;have sY:=lh mD;have Ui:=lh Lg;clear mD Lg);have bU:=lh (((TS.out.alloc (.map #[] 0)).grown Ui.out (row:=some (w.heap.size+1)) (λk hk=>by cases hk;exact Qe (by omega))));have agm:=lh (show w2.heap[w.heap.size]?=some (.cells #[.int .i64 g.n,.slice eo g.e.length cap] 24 (0,0)) from ((ai.refl [w.heap.size+1] _).grown Ui.out (row:=some (w.heap.size+1)) (λk hk=>by cases hk;exact Qi (by simp))).heap (((ai.refl [] _).alloc (.map #[] 0)).heap UY.out (by simp)) (by simp));clear HM Ui UY ze aoh;refine (OG w2).mono ?_;rintro e w3 ⟨rfl,hq3,dK⟩;have V8:=lh hq3;have b8:=lh (bU.out.t dK);have ZC:=lh (sY.out.aL dK (by simp));have aaG:=lh (dK.heap agm.out (by simp));have HH:=lh dK.size;have HH0:=lh bU.out.size;clear hq3 dK sY agm bU TS;generalize hHe:w2.heap.size=H at *;go_wp2_with fail;refine (EJ H H [] a w3 hia HH.out (by simp) V8.out).mono ?_;rintro e w4 ⟨rfl,hq4,own4,ho4,gX⟩;have HQ4:=lh hq4;have eW:=lh (b8.out.trans gX (λj hj=>Qe (Qc HH0.out (ho4 j hj).1)));have nm4:w.heap.size+1 ∉ own4:=λe=>by obtain⟨_,cs,t,r,hh,_⟩:=ho4 _ e;exact ZC.out.ne hh rfl
 have ng4:w.heap.size ∉ own4:=λe=>by obtain⟨_,cs,t,r,hh,ht⟩:=ho4 _ e;rw[aaG.out] at hh;simp at hh;obtain⟨_,e2,_⟩:=hh;rcases ht with q | q <;> (rw[<-e2] at q;revert q;decide)
 have HM4:=lh (ZC.out.aL gX nm4);have abg:=lh (gX.heap aaG.out ng4);clear hq4 ho4 gX nm4 ng4 ZC aaG b8 V8;go_wp2_with fail;refine (Al H H a [] w4 HQ4.out).mono ?_;rintro e w5 ⟨rfl,hq5,own5,NN,dV⟩;have HQ5:=lh hq5;have fG:=lh (eW.out.trans dV (λj hj=>Qe (Qc HH0.out (NN j hj).1)));have nm5:w.heap.size+1 ∉ own5:=λe=>by obtain⟨_,cs,t,r,hh,_⟩:=NN _ e;exact HM4.out.ne hh rfl
 have ng5:w.heap.size ∉ own5:=λe=>by obtain⟨_,cs,t,r,hh,ht⟩:=NN _ e;rw[abg.out] at hh;simp at hh;obtain⟨_,e2,_⟩:=hh;rcases ht with q | q <;> (rw[<-e2] at q;revert q;decide)
 have HM5:=lh (HM4.out.aL dV nm5);have aez:=lh (dV.heap abg.out ng5);clear hq5 NN dV nm5 ng5 HM4 abg eW HQ4;go_wp2;have ni:=lh (Plain.Pt.ax hr);have IQ:=lh (Plain.lS (Plain.Pt.aF hr).2.1);have fB:=lh (Plain.Gr.aF (Plain.Pt.aF hr).1);have sJ:=lh (Plain.Pt.aF hr).2.2.1;have HAV:=lh ha;have rD:=lh (vH.mk (w:=w) (gb:=w.heap.size) (mp:=w.heap.size+1) (H:=H) HQ5.out fG.out HM5.out aez.out);have Bb:=lh (show M3 g p shut a (λy=>if y=a then some 0 else none) (0+1) [a] (2*p.v.length+2) from⟨Plain.Tl.start ni.out ha,by simp,λu hu=>Qi (by by_cases e:u=a <;> simp[e] at hu ⊢),by have:=(Plain.Tl.start (g:=g) (shut:=shut) ni.out ha).et;simp;omega⟩);have HMP:=lh (show w.heap.size<=w.heap.size+1 by omega);have RH:∀ u∈p.v,0<=u/\u<1025:=λu hu=>by have:=ni.out.vr u hu;have:=fB.out.2.1;omega
 have jr:=lh RH;clear hr ha HQ5 fG HM5 aez hHe RH;generalize UZ:w.heap.size=gb at *;generalize Po:gb+1=mp at *;have UY:=lh UZ;have NA:=lh Po;clear UZ Po;go_loopg [12,13] (2*p.v.length+2) (λfuel Jk c13 wr=>Hid (fuel<=2*p.v.length+2)/\∃ f m,(∃ v q,Jk=.int .i64 v/\c13=.bool true/\vH w gb mp H #[.int .i64 g.n,.slice eo g.e.length cap] f m q wr/\Hid (M3 g p shut a f m (v :: q) fuel)/\Hid (Plain.J2 g p shut a f (v :: q) fuel))\/(Jk=.int .i64 0/\c13=.bool false/\vH w gb mp H #[.int .i64 g.n,.slice eo g.e.length cap] f m [] wr/\Hid (M3 g p shut a f m [] fuel)/\Hid (Plain.J2 g p shut a f [] fuel)))
 case atStart=>exact⟨lh (Qq _),_,_,Qi ⟨a,[],rfl,rfl,rD.out,Bb,lh ⟨rfl,Plain.pX.start g p a⟩⟩⟩
 case round =>
  obtain⟨UA,f,m,⟨v,q,rfl,rfl,jA,eY,hbo⟩ | ⟨rfl,rfl,jA,eY,hbo⟩⟩:=hrel
  ·have pA:=lh jA
   have aeT:=eY.out.1.PG v (eY.out.2.1 v (by simp));have hvs:=jr.out v aeT;have hiv:bF v:=bF.mk (by omega) (by omega);have SH:=lh jA.aL;clear jA aeT;go_wp2_with (at_lookup;refine tS rfl _ _ rfl HSD.out SH.out (by omega) rfl hiv rfl ?_;intro vv r0;obtain⟨vo,vc,rfl⟩:=r0.shape;have R0:=lh r0;clear r0);have alh:=lh (eY.out.inner (p.ah.filter λd=>decide (g.tail d=v)));have HLD:=lh (show ∀ d∈p.ah.filter λd=>decide (g.tail d=v),d∈p.ah/\g.tail d=v from λd hd=>by have:=List.mem_filter.1 hd;exact⟨this.1,by simpa using this.2⟩);have S5:=lh (λ(f':Int->Option Int) (m':Nat) (q':List Int) (h:L3 g p shut a f' m' v q' (p.ah.filter λd=>decide (g.tail d=v)) (p.ah.filter λd=>decide (g.tail d=v)).length gk)=>L3.outer ni.out h);obtain⟨c0,fs⟩:=Option.ne_none_iff_exists'.1 (eY.out.2.1 v (by simp));have HBI:=lh (hbo.out.inner fs (by have:=eY.out.2.2.2;simp at this;omega));clear eY hbo fs;generalize (p.ah.filter λd=>decide (g.tail d=v))=L at *;have Yw:L.length<4294967296:=R0.out.2.2;go_loopw [44] (λc wr=>∃ k:Nat,k<=L.length/\c=.int .i64 k/\∃ f m q,vH w gb mp H #[.int .i64 g.n,.slice eo g.e.length cap] f m q wr/\Hid (L3 g p shut a f m v q L k gk)/\Hid (Plain.N8 g p shut a f v c0 q L k gk)) (λc _=>L.length - (intOf c).toNat);case atStart=>exact⟨0,Qh _,rfl,f,m,q,pA.out,alh,HBI⟩
   case round =>
    obtain⟨k,hk,rfl,f1,m1,q1,jA,dE,Tz⟩:=hrel;have BE:=lh jA;by_cases aW:k<L.length
    ·obtain⟨gr,hvo,xK⟩:=R0.out.some (by omega)
     subst hvo;have ck:=jA.aL.c (xK k aW);have x0:=(cell_of_row _ _ 0 _ _ _ jA.box).trans (show _=some (Value.int .i64 g.n) from rfl);have x1:=(cell_of_row _ _ 1 _ _ _ jA.box).trans (show _=some (Qa eo g.e.length cap) from rfl);obtain⟨xA,Ms⟩:=HLD.out (L.getD k 0) (by simp[Qb,aW]);have NZ:=(ni.out.aP xA).2;have Ay:=jr.out _ NZ;have xo:bF (g.head (L.getD k 0)):=bF.mk (by omega) (by omega);have pY:=Plain.fW (g:=g) xA;rw[Ms] at pY;obtain⟨ee,wO,XW⟩:∃ ee:Nat,ee<g.e.length/\L.getD k 0 / 2=(ee:Int):=by
      obtain⟨i,hi,e⟩:=Plain.cr (Plain.au.1 xA);have:=Plain.cG sJ.out hi;exact⟨(L.getD k 0 / 2).toNat,by omega,by omega⟩
     obtain⟨dn,xN⟩:∃ dn:Nat,L.getD k 0=(dn:Int):=⟨(L.getD k 0).toNat,by omega⟩;have alJ:dn / 2<g.e.length:=by omega
     have wE:g.e.length<4294967296:=by have:=fB.out.2.2.1;have:=fB.out.1;omega
     have PN:=lh (λh=>And.intro (L3.skip (k:=k) dE.out h) (Plain.N8.skip Tz.out aW h));have ahj:=xA;have agh:=Ms;have HAD:=lh (λhs hf=>And.intro (L3.add (x:=g.head (L.getD k 0)) (c:=c0) ni.out dE.out rfl NZ pY hs Tz.out.1 hf) (Plain.N8.add Tz.out aW rfl ahj agh hs hf));have YB:=lh dE.out.1.et;have Sb:=lh dE.out.1.val;have PH:=lh dE.out.2.2.2.2.1;obtain⟨cv,abf⟩:∃ cv,c0=cv:=⟨_,rfl⟩;have Ob:=Tz.out.1;rw[abf] at Ob HAD;have HCC:=lh abf;have HCV:=lh Ob;obtain⟨xx,hxx⟩:∃ xx,g.head (L.getD k 0)=xx:=⟨_,rfl⟩;have HHD:=lh (show g.head (dn:Int)=xx by rw[<-xN];exact hxx);rw[hxx] at PN HAD xo;rw[xN] at ck;have AK:=lh wO;clear xK xA Ms NZ Ay pY XW xN hxx dE Ob wO ahj agh Tz abf;go_wp2_with fail;refine (rY _ g dn _ alJ wE (HG.out.fresh BE.out.aL)).mono ?_;rw[HHD.out];rintro e w6 ⟨rfl,hc6⟩;have L7:=lh (BE.out.fresh hc6);clear hc6 jA ck x0 x1;cases wT:f1 xx with
     | some c0 =>
      have HF:=lh wT;have HR:=lh (PN.out (Qe (by rw[wT];simp)));clear wT;go_wp2_with (at_lookup;refine jX _ rfl _ _ rfl L7.out.map rfl xo rfl HF ?_);go_roundw;case rel=>exact⟨k+1,by omega,by go_num,f1,m1,q1,L7.out,lh HR.out.1,lh HR.out.2⟩
      case measure=>simp[intOf];omega
     | none =>
      have HF:=lh wT;by_cases hsx:xx=shut
      ·have HR:=lh (PN.out (Qi hsx))
       have hb:(xx==shut)=true:=by rw[beq_iff_eq];exact hsx
       clear wT hsx;go_wp2_with (at_lookup;refine fP _ rfl _ _ rfl L7.out.map rfl xo rfl HF ?_);go_roundw;case rel=>exact⟨k+1,by omega,by go_num,f1,m1,q1,L7.out,lh HR.out.1,lh HR.out.2⟩
       case measure=>simp[intOf];omega
      have HR:=lh (HAD.out hsx wT);have hb:(xx==shut)=false:=by rw[beq_eq_false_iff_ne];exact hsx
      have Fo:=Sb.out v cv HCV.out;have avR:0<=cv/\cv<=1000000:=by omega
      have rX:m1<1000001:=by have:=YB.out;omega
      have Rk:q1.length+1<4294967296:=by have:=PH.out;have:=UA.out;omega
      have HGV:=lh (show (f1 v).getD 0=cv by rw[HCV.out];rfl);have hic:bF (cv+1):=bF.mk (by omega) (by omega);have T7:True:=trivial;clear wT hsx Fo;go_wp2_with (first
       | (at_lookup;have _t:=T7;refine fP _ rfl _ _ rfl L7.out.map rfl xo rfl HF ?_;clear T7)
       | (at_lookup;refine xV _ rfl _ _ rfl L7.out.map rfl hiv rfl HGV ?_)
       | (at_mapUpdate;refine ph _ rfl _ _ _ rfl L7.out.map (by unfold maxLen;omega) rfl xo hic rfl rfl ?_;intro w7 Su Sp;have XS:=lh (L7.out.met (by rw[UY.out];exact HMP.out) Su Sp);clear Su Sp))
      have hH7:H<=w7.heap.size:=by obtain⟨_,hb7,_⟩:=XS.out.queue;exact Nat.le_of_lt (lt_of_block hb7)
      refine (EJ H H q1 xx w7 xo hH7 Rk XS.out.queue).mono ?_;rintro e w8 ⟨rfl,hq8,own8,ho8,su⟩;have HM8:=lh (XS.out.aa (by rw[UY.out];exact HH0.out) hq8 ho8 su);clear hq8 ho8 su;go_wp2;go_roundw;case rel=>exact⟨k+1,by omega,by go_num,_,_,_,HM8.out,lh HR.out.1,lh (by rw[HCC.out];exact HR.out.2)⟩
      case measure=>simp[intOf];omega
    have e:k=L.length:=by omega
    subst e;have HO:=lh (S5.out f1 m1 q1 dE.out);have HFU:=lh dE.out.2.2.2.2.1;have HBO:=lh (Plain.N8.outer Tz.out);clear jA dE Tz;cases q1 with
    | nil =>
     go_wp2_with fail;refine (Jb H H _ BE.out.queue).mono ?_;rintro e w8 ⟨rfl,rfl⟩;go_wp2;go_roundg (gk - 1)
     case measure=>have:=HFU.out;omega
     case rel=>exact⟨lh (Qc (Nat.sub_le _ _) UA.out),f1,m1,Qe ⟨rfl,rfl,BE.out,HO,HBO⟩⟩
    | cons x r =>
     go_wp2_with fail;refine (Al H H x r _ BE.out.queue).mono ?_;rintro e w8 ⟨rfl,hq8,own8,ho8,su⟩;have HM8:=lh (BE.out.aa (by rw[UY.out];exact HH0.out) hq8 ho8 su);clear hq8 ho8 su;go_wp2;go_roundg (gk - 1)
     case measure=>have:=HFU.out;omega
     case rel=>exact⟨lh (Qc (Nat.sub_le _ _) UA.out),f1,m1,Qi ⟨x,r,rfl,rfl,HM8.out,HO,HBO⟩⟩
  have pA:=lh jA;have aly:=lh (show m<=p.v.length by have:=eY.out.1.et;omega);have sm:=lh (λx=>eY.out.1.all (λu hu=>((eY.out.2.2.1 u hu).resolve_left (by simp))) x);have uk:=lh (λ(u c:Int) (h:f u=some c)=>(show c<=(p.v.length:Int) by have:=(eY.out.1.val u c h).2;omega));have HBE:=lh hbo.out.last;have YD:=lh hbo.out.2;clear jA eY hbo;rw[HBE.out] at pA sm YD uk;go_wp2;go_ret;exact⟨mp,m,rfl,pA.out.map,sm.out,YD.out,uk.out,pA.out.aL,by rw[UY.out];exact HMP.out,aly.out⟩
