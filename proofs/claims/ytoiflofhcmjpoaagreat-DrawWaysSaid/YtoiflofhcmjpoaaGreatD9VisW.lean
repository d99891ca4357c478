/- block.target, finder.visit: contracts. Conditions: what each theorem says. -/
import Derived.Test.YtoiflofhcmjpoaaGreatD9Fs
open Go.Act renaming put→Qa
open Bool renaming eq_false_iff→Qb
open List renaming length_append→Qc,length_cons→Qd,length_nil→Qe
open Nat renaming zero_le→Qf
-- READS ONLY
namespace Go.Proofs.YtoiflofhcmjpoaaGreat
open Go.RowKit Go.Maps
theorem CU (v:Value) (g:Plain.Gr) (d:Nat) (w:World) (hd:d / 2<g.e.length) (_hm:g.e.length<4294967296) (h:dJ w v g) :
  Calls Tryz.prog 171 #[v,.int .i64 d] w fun e w'=>e=.returned (.int .i64 (g.head d))/\ag [] w w':=by
 obtain⟨eo,cap,rfl,-,-,-,aK⟩:=h;obtain⟨b,off,rfl,gO,cY⟩:=aK (d / 2) hd;have b8:=lh ((ag.refl [] w).alloc (.cells #[.int .i64 g.n,.slice (some ⟨b,off,none⟩) g.e.length cap] 24));obtain⟨e,he⟩:∃ e,d / 2=e:=⟨_,rfl⟩;rw[he] at hd gO cY;have c0:=fun o=>bP gO o;have c1:=fun o=>bP cY o;clear aK gO cY;rcases (show d=2*e\/d=2*e+1 by omega) with rfl | rfl
 ·obtain⟨q1,q2⟩:=pB e
  have HE:=lh (jr g e).2;rw[HE.out];clear he;generalize ((2*e:Nat):Int)=dd at *;generalize (g.ends e).1=x at *;generalize (g.ends e).2=y at *
  go_enter Tryz.func171,Tryz.ntmps171
  go_wp2;go_ret;exact⟨rfl,b8.out⟩
 obtain⟨q1,q2⟩:=th e;have HE:=lh (kM g e).2;rw[HE.out];clear he;generalize ((2*e+1:Nat):Int)=dd at *;generalize (g.ends e).1=x at *;generalize (g.ends e).2=y at *
 go_enter Tryz.func171,Tryz.ntmps171
 go_wp2;go_ret;exact⟨rfl,b8.out⟩
theorem dJ.aD {w w':World} {n:Int} {ge:Value} {g:Plain.Gr} {own:List Nat} (h:dJ w (.agg #[.int .i64 n,ge]) g) (hc:ag own w w') (hn:0<g.e.length->∀ b n c,ge=.slice (some b) n c->b.block ∉ own):dJ w' (.agg #[.int .i64 n,ge]) g:=by
 obtain⟨eo,cap,e,h1,h2,h3,h4⟩:=h;simp only[Value.agg.injEq,Array.mk.injEq,List.cons.injEq,Value.int.injEq,true_and,and_true] at e;obtain⟨rfl,rfl⟩:=e;refine⟨eo,cap,rfl,h1,h2,h3,fun i hi=>?_⟩;obtain⟨b,off,rfl,e1,e2⟩:=h4 i hi;have hb:=hn (Nat.lt_of_le_of_lt (Qf _) hi) _ _ _ rfl;exact⟨b,off,rfl,hc.cell e1 hb,hc.cell e2 hb⟩
structure FK.Has (k:FK) (g:Plain.Gr) (p:Plain.Pt):Prop where
 n:g.n=k.n
 sn:k.n<=100000
 se:g.e.length<=100000
 he:∀ e∈p.e,e<g.e.length
 gr:dJ k.w0 (.agg #[.int .i64 g.n,k.gE]) g
 gro:0<g.e.length->∀ b n c,k.gE=.slice (some b) n c->b.block ∉ k.own
 dv:∃ (db c:Nat) (rv:Nat->Value),k.dv=.slice (some ⟨db,0,none⟩) k.n c/\db ∉ k.own/\∀ v,v<k.n->k.w0.cell? ⟨db,v,none⟩=some (rv v)/\al k.w0 (rv v) (Plain.aF g p v)/\∀ b n c,rv v=.slice (some b) n c->b.block ∉ k.own
theorem Ig {x y:Int} (h1:aU x) (h2:aU y):aU (min x y):=by
 by_cases h:x<=y
 ·rwa[Int.min_eq_left h]
 rwa[Int.min_eq_right (by omega)]
theorem G' (w:World) (o:Obj):(w.alloc o).heap[w.heap.size]?=some o:=by
 unfold World.alloc;exact Array.getElem?_push_size
theorem E9 (w:World) {B:Nat} (hB:B<=w.heap.size) {x:Int} (hx:aU x):aj (w.alloc (.cells #[.int .i64 x] 3)) B (.slice (some ⟨w.heap.size,0,none⟩) 1 1) [x] :=
 ⟨⟨rfl,Or.inr ⟨w.heap.size,1,#[.int .i64 x],rfl,hB,G' w _,Nat.le_refl _,by unfold maxLen;decide,rfl,rfl⟩⟩,by simpa using hx,by simp⟩
def Vn (g:Plain.Gr) (p:Plain.Pt) (k:FK) (N:Nat):Prop:=∀ (s:Plain.dI) (A:List Int) (v:Nat) (via:Int) (r:Nat) (w:World),Plain.zq g p s A v via->Plain.Jd p s<=N->Fin k g p w s r ->
  Calls Tryz.prog 123 #[.pointer (some ⟨k.pb,0,none⟩),.int .i64 v,.int .i64 via] w fun x w'=>x=.returned (.tuple #[])/\Fin k g p w' (Plain.visit g p N v via s) r
set_option maxRecDepth 100000 in
set_option maxHeartbeats 8000000 in
theorem JJ (k:FK) (g:Plain.Gr) (p:Plain.Pt) (hk:k.Ok) (hh:k.Has g p) (hp:Plain.aB g p) (N:Nat) (ih:Vn g p k N):Vn g p k (N+1):=by
 intro s A v via r w hE hu sV;have HE:=lh hE;have HP:=lh hp;have HIH:=lh ih;have HK:=lh hk;have HH:=lh hh;have HU:=lh hu;obtain⟨ev,m,F,hf,nT,jo⟩:=sV;have nt:=hE.cH.fe;have dm:=Plain.J3 hp hE.vV hE.vn nt;have zl:v<k.n:=by
  have:=(hp.vr v hE.vV).2;rw[hh.n] at this;omega
 obtain⟨db,dc,rv,XZ,mj,hdr⟩:=hh.dv;obtain⟨fQ,fh,TN⟩:=hdr v zl;obtain⟨D,hD⟩:∃ D,Plain.aF g p v=D:=⟨_,rfl⟩;rw[hD] at dm fh;have HD:=lh hD;have HF:=lh hf;obtain⟨-,-,-,-,-,c5,-,-⟩:=hf.eight;have f5:=hf.free 5;obtain⟨c,hc⟩:∃ c,s.fe=c:=⟨_,rfl⟩;have HC:=lh hc;rw[hc] at c5 jo nt;have wc:IntKind.i64.wrap (c+1)=c+1:=IntWalk.i64_in _ (by omega);have Di:=lh (hf.count hk (c+1));have XC:=lh (show aU (c+1) from aU.mk (by omega) (by omega));have Dz:=lh nT;have mr:=lh jo;have GX:=lh dm;clear hE hp ih hk hh hu hf nT jo dm hdr hD hc
 go_enter Tryz.func123,Tryz.ntmps123
 go_wp2_with fail
 generalize w.setCell ⟨k.pb,5,none⟩ (.int .i64 (c+1))=wb at *;obtain⟨-,-,a2,a3,a4,a5,-,-⟩:=Di.out.eight;rw[XZ] at a2;have fm:=Di.out.met.free (by omega) v;have fl:=Di.out.low.free (by omega) v;have cm:=Di.out.met.cell zl;have cl:=Di.out.low.cell zl;have OR:(v:Int)<(k.n:Int):=by omega
 have bh:=Di.out.ne;have aW:ag [k.mb] wb wb.drew:=(ag.refl [k.mb] wb).drew;refine ar (ag [k.mb] wb) [0,1,2,3,4,5,6,7,8,9,10,11,12,13,14,15,16,17,18,20] (Way.line [0,1,2,3,4,5,6,7,8,9,10,11,12,13,14,15,16,17,18,19,20,21] .done) (by kernel_rfl) (by kernel_rfl) ?_;simp only[Way.line]
 repeat (refine ai (v:=?_) rfl (by rfl) (by rfl) (fun _ _ _ h=>h) aW (fun w' aI=>?_) ?_;rotate_left;(focus (have gB:=aI.cell a3 (by simpa using bh.1);have gQ:=aI.cell a4 (by simpa using bh.1);have np:=aI.cell a5 (by simpa using bh.1);clear aI;go_simp;try with_reducible rfl));simp only[Qa,Z1,Z2,Z3,Z4,Z5,Z6])
 refine au rfl (by rfl) (by rfl) (fun K hK=>?_);go_simp;have bF:ag [k.mb] wb (wb.setCell ⟨k.mb,v,none⟩ (.int .i64 (c+1))).drew:=((ag.refl [k.mb] wb).setCell (p:=⟨k.mb,v,none⟩) (Or.inl (by simp)) (.int .i64 (c+1))).drew;have Uv:=lh (Di.out.Wl HK.out zl XC.out);refine hK.out _ _ (fun _=>bF) ?_;clear hK K aW
 try simp only[Qa,Z1,Z2,Z3,Z4,Z5,Z6]
 generalize wb.setCell ⟨k.mb,v,none⟩ (.int .i64 (c+1))=wm at *
 repeat (refine ai (v:=?_) rfl (by rfl) (by rfl) (fun _ _ _ h=>h) bF (fun w' aI=>?_) ?_;rotate_left;(focus (have gB:=aI.cell a3 (by simpa using bh.1);have gQ:=aI.cell a4 (by simpa using bh.1);have np:=aI.cell a5 (by simpa using bh.1);clear aI;go_simp;try with_reducible rfl));simp only[Qa,Z1,Z2,Z3,Z4,Z5,Z6])
 have fl2:=Uv.out.low.free (by omega) v;have cl2:=Uv.out.low.cell zl;refine au rfl (by rfl) (by rfl) (fun K hK=>?_);go_simp;have G9:=lh (Uv.out.Gn HK.out zl XC.out);refine hK.out _ _ (fun h=>absurd h (Qb.1 (by kernel_rfl))) ?_;clear hK K bF
 try simp only[Qa,Z1,Z2,Z3,Z4,Z5,Z6]
 refine aC ?_;generalize wm.setCell ⟨k.lb,v,none⟩ (.int .i64 (c+1))=wl at *;have NQ:=lh (show cX k g wl.drew (s.enter v) ev m F by
  have:=G9.out.fresh (ag.refl [] wl).drew;unfold Plain.dI.enter;rw[HC.out];exact this)
 clear G9 Uv Di a3 a4 a5 fm fl cm cl fl2 cl2 c5 f5;generalize wl.drew=w1 at *;obtain⟨-,-,a2,-,-,-,-,-⟩:=NQ.out.eight;rw[XZ] at a2;have Tw:w1.cell? ⟨db,v,none⟩=some (rv v):=NQ.out.aD.cell fQ (by simpa using mj);have hID:al w1 (rv v) D:=fh.aD NQ.out.aD TN;have HID:=lh (show ∀ wx,ag k.own k.w0 wx->al wx (rv v) D from fun wx hx=>fh.aD hx TN);obtain⟨ao,ac,e,hI,hDm,-⟩:=hID;rw[e] at Tw HID;have HI:=lh hI;clear fQ fh TN hI e
 go_wp2_with fail
 have Zr:=lh (show Fin k g p w1 (s.enter v) (r+D.length) from⟨ev,m,F,NQ.out,by
  have h1:=Dz.out;have h2:=GX.out;show m+s.ed.length+Plain.vJ g p (s.enter v)+(r+D.length)<=100000;omega,by
  have h1:=mr.out;have h2:=GX.out;show s.fe+1+Plain.vJ g p (s.enter v)<=100000;rw[HC.out];omega⟩)
 have sS:=lh (show Plain.cK g p s (s.enter v) A v via [] from Plain.cK.start HP.out HE.out);clear NQ Dz mr GX XC a2 Tw nt
 go_loopw [7,8,9,45,57,68,72,134] (fun _ _ _ iv _ _ _ _ wr=>∃ j:Nat,j<=D.length/\iv=.int .i64 j/\∃ t,t=(D.take j).foldl (Plain.fV (Plain.visit g p N) g v via) (s.enter v)/\Fin k g p wr t (r+(D.length - j))/\Plain.cK g p s t A v via (D.take j)) (fun _ _ _ iv _ _ _ _ _=>((D.length:Int) - intOf iv).toNat)
 case atStart=>exact⟨0,Qf _,rfl,_,rfl,by rw[Nat.sub_zero];exact Zr.out,sS.out⟩
 case round =>
  obtain⟨j,hj,rfl,t,ht,hft,hsn⟩:=hrel;clear Zr sS;have HT:=lh ht;have sS:=lh hsn;have zC:=lh hft;clear ht hsn;by_cases h0:j=D.length
  ·subst h0
   have b0:decide ((D.length:Int)<(D.length:Int))=false:=decide_eq_false (by omega);clear hft hj;go_wp2;refine bodyPost_end (v:=.tuple #[]) (by simp[results,Tryz.results123,go_sem]) rfl ?_;refine⟨rfl,?_⟩;have h1:=zC.out;rw[HT.out,List.take_length,Nat.sub_self] at h1;unfold Plain.visit;rw[HD.out];exact h1
  have rj:j<D.length:=by omega
  obtain⟨ev1,m1,F1,KP,ZA,DX⟩:=hft;have UR:=lh KP;have ZC:=lh (HID.out wr KP.aD);obtain⟨bb,sX,rfl,Xz⟩:=ZC.out.cellAt rj;have xp:D.getD j 0∈D:=Plain.aQ rj;obtain⟨d,hd⟩:∃ d,D.getD j 0=d:=⟨_,rfl⟩;rw[hd] at xp Xz;have WA:d∈Plain.aF g p v:=by rw[HD.out];exact xp
  obtain⟨lC,Fp⟩:=Plain.bg.1 WA;have sr:=Plain.aw.1 lC;have ET:=HP.out.er _ sr;have aL:=HH.out.he _ sr;obtain⟨dn,rfl⟩:∃ dn:Nat,d=dn:=⟨d.toNat,by omega⟩;obtain⟨en,kD⟩:∃ en,dn / 2=en:=⟨_,rfl⟩;have UU:((dn:Int) / 2)=(en:Int):=by omega
  rw[UU] at sr aL;have Lx:dn / 2<g.e.length:=by omega
  have hq:Int.tdiv (dn:Int) 2=(en:Int):=by rw[Int.tdiv_eq_ediv_of_nonneg (by omega)];omega
  have YE:=(HP.out.aO lC).2;have V9:=HP.out.vr _ YE;obtain⟨x,hx⟩:∃ x:Nat,g.head (dn:Int)=x:=⟨(g.head dn).toNat,by omega⟩;rw[hx] at YE V9;have Yf:x<k.n:=by have:=V9.2;rw[HH.out.n] at this;omega
  have HX:=lh hx;have KW:=lh UU;have BD:(dn:Int) ∉ D.take j:=fun q=>by
   have gS:D.Nodup:=by rw[<-HD.out];exact Plain.eS HP.out.en v
   obtain⟨i,It,Av⟩:=List.mem_iff_getElem.1 q;rw[List.getElem_take] at Av;rw[List.length_take] at It;have h3:D[j]=(dn:Int):=by rw[<-hd];simp[List.getD,rj]
   exact (List.pairwise_iff_getElem.1 gS i j (by omega) rj (by omega)) (by rw[Av,h3])
  have X5:=lh (sS.out.step HP.out HE.out HU.out WA BD);have hts:D.take (j+1)=D.take j++[(dn:Int)]:=by
   rw[List.take_succ_eq_append_getElem rj]
   congr 2
   rw[<-hd];simp[List.getD,rj]
  have XS:=lh hts;have Dq:=lh (show (D.take (j+1)).foldl (Plain.fV (Plain.visit g p N) g v via) (s.enter v)=Plain.fV (Plain.visit g p N) g v via t dn by rw[hts,List.foldl_append,<-HT.out];rfl);have lA:(j:Int)<(D.length:Int):=by omega
  have Ar:=lh (show ∀ wx,ag k.own k.w0 wx->dJ wx (.agg #[.int .i64 g.n,k.gE]) g from fun wx hc=>HH.out.gr.aD hc HH.out.gro);obtain⟨a0,a1,-,-,-,-,-,-⟩:=KP.eight;have Rm:=lh lC;have HDT:=lh Fp;clear KP hd xp WA lC Fp hts hx kD BD
  go_wp2_with fail
  refine (CU _ g dn wr Lx (by have:=HH.out.se;omega) (Ar.out wr UR.out.aD)).mono ?_;rintro _ w2 ⟨rfl,bA⟩;rw[HX.out];have oh:=lh (UR.out.fresh bA);obtain⟨-,-,-,a3,a4,-,a6,a7⟩:=oh.out.eight;have IE:=lh (show aU (en:Int) from aU.mk (by omega) (by have:=HH.out.se;omega));clear UR zC ZC Ar Xz a0 a1 bA hq Lx;have wq:wrap64 (en:Int)=(en:Int):=IntWalk.wrap64_in _ (by have:=HH.out.se;omega);by_cases c1:x=v
  ·have b1:((x:Int)==(v:Int))=true:=by simp[c1]
   have BK:Plain.fV (Plain.visit g p N) g v via t dn=t.lay en:=by
    unfold Plain.fV;rw[HX.out,if_pos (by rw[c1]),KW.out]
   have HA:=lh (oh.out.fresh ((ag.refl [] w2).alloc (.cells #[.int .i64 (en:Int)] 3)));have HRS:=lh (E9 w2 (B:=k.w0.heap.size) oh.out.aD.size IE.out);have Dx:=lh (show ∀ b,ev1.ownBlock=some b->b<w2.heap.size from fun b hb=>(oh.out.ed.low b (by simp[hb])).2);clear lA h0
   go_wp2_with (first
    | (at_mapUpdate;refine Kn rfl _ _ _ rfl HA.out.map (by unfold maxLen;omega) rfl IE.out rfl rfl (uN.some _ _ _ _) ?_;intro w6 m6 c6;have M6:=lh m6;have C6:=lh c6;clear m6 c6)
    | fail)
   go_roundw
   case rel =>
    have h1:=HA.out.put HK.out (l:=[(en:Int)]) HRS.out (fun b hb q=>by
     have e1:w2.heap.size=b:=by simpa[Value.ownBlock] using hb
     have:=Dx.out b q;omega) C6.out M6.out
    refine⟨j+1,by omega,by go_num,t.lay en,?_,⟨_,_,_,h1,?_,DX⟩,?_⟩
    ·rw[Dq.out,BK]
    ·show m1+1+t.ed.length+Plain.vJ g p t+(r+(D.length - (j+1)))<=100000
     omega
    rw[XS.out,<-BK];exact X5.out
   case measure=>simp[intOf];omega
  have b1:((x:Int)==(v:Int))=false:=by simp;omega
  by_cases c2:(en:Int)=via
  ·have b2:((en:Int)==via)=true:=by simp[c2]
   have BK:Plain.fV (Plain.visit g p N) g v via t dn=t:=by
    unfold Plain.fV;rw[HX.out,if_neg (by omega),KW.out,if_pos c2]
   clear lA h0 c2;go_wp2
   go_roundw
   case rel =>
    refine⟨j+1,by omega,by go_num,t,by rw[Dq.out,BK],⟨_,_,_,oh.out,by omega,DX⟩,?_⟩;have h1:=X5.out;rw[BK] at h1;rw[XS.out];exact h1
   case measure=>simp[intOf];omega
  have b2:((en:Int)==via)=false:=by simp[c2]
  have A6:=oh.out.ne;have XM:=oh.out.met.cell Yf;have hxi:(x:Int)<(k.n:Int):=by omega
  obtain⟨tm,KX⟩:∃ tm,t.met (x:Int)=tm:=⟨_,rfl⟩;have Br:=lh KX;rw[KX] at XM;clear KX;by_cases c3:tm=0
  ·have b3:(tm==0)=true:=by simp[c3]
   have Cq:=lh (show m1+(t.push en).ed.length+Plain.vJ g p (t.push en)+(r+(D.length - (j+1)))<=100000 by
    show m1+(t.ed++[(en:Int)]).length+Plain.vJ g p t+(r+(D.length - (j+1)))<=100000;rw[Qc];simp only[Qd,Qe];omega)
   have TF:=lh (show ¬ (x:Int)=(v:Int) by omega);have qR:=oh.out.low.free (by omega) v;have DG:=lh (show Plain.fV (Plain.visit g p N) g v via t dn=(Plain.visit g p N x en (t.push en)).back v x en from by
    unfold Plain.fV;rw[HX.out,if_neg TF.out,KW.out,if_neg c2,if_pos (by rw[Br.out];exact c3)])
   have Vs:=lh (show t.met (g.head dn)=0 by rw[HX.out,Br.out];exact c3);have HEX:=lh (sS.out.ent HP.out HE.out Rm.out HDT.out Vs.out);have YK:=lh (sS.out.less (d:=(dn:Int) / 2) HE.out HU.out);rw[HX.out,KW.out] at HEX;rw[KW.out] at YK;have HSX:=lh (Plain.tG HP.out N _ _ _ _ HEX.out YK.out);have Yi:=lh (show 0<k.n by omega);clear lA h0 qR;have q6:=oh.out.free 6;obtain⟨eo1,Y4,rfl⟩:=oh.out.ed.shape;have te:=lh (show k.pb ∉ aE (.slice eo1 t.ed.length Y4) from fun q=>by
    rw[oh.out.ed.aE] at q;have:=(oh.out.ed.low _ q).1;have:=HK.out.lt k.pb (by simp[FK.own]);omega)
   go_wp2_with (first
    | (at_builtin;refine gA rfl _ _ rfl (B:=k.w0.heap.size) (v:=.slice eo1 _ Y4) rfl rfl oh.out.ed IE.out oh.out.aD.size (by omega) rfl ?_;intro v6 w6 r6 c6 f6;obtain⟨o6,n6,rfl⟩:=r6.shape;have R6:=lh r6;have C6:=lh c6;have F6:=lh f6;have d6:=c6.cell a6 te.out;have g6:=c6.frozen a6 q6 te.out;clear r6 c6 f6)
    | fail)
   have xo:=lh (oh.out.push HK.out R6.out C6.out F6.out);clear d6 g6 a3 a4 a6 a7 q6 R6 C6 F6 te;rw[show (t.ed++[(en:Int)]).length=t.ed.length+1 by simp] at xo;generalize w6.setCell ⟨k.pb,6,none⟩ (.slice o6 (t.ed.length+1) n6)=w7 at *;refine (HIH.out (t.push en) (A++[(v:Int)]) x en (r+(D.length - (j+1))) w7 HEX.out YK.out ⟨_,_,_,xo.out,?_,DX⟩).mono ?_
   ·exact Cq.out
   rintro _ w3 ⟨rfl,hv3⟩;obtain⟨t3,Iz⟩:∃ t3,Plain.visit g p N x en (t.push en)=t3:=⟨_,rfl⟩;rw[Iz] at HSX hv3 DG;have Lx:(en:Int)∈t3.ed:=by
    obtain⟨R,N',e1,-⟩:=HSX.out.yW;rw[e1];show (en:Int)∈(t.ed++[(en:Int)])++R;simp
   have aiH:=lh Lx;clear xo HEX YK HSX Iz Lx Vs ZA DX oh A6 XM Br HIH HID;obtain⟨ev3,m3,F3,TZ,acn,ZF⟩:=hv3;have HF3:=lh TZ;obtain⟨-,-,-,z3,z4,-,-,-⟩:=TZ.eight;have lv:=TZ.low.cell zl;have lx:=TZ.low.cell Yf;have lf:=TZ.low.free Yi.out v;have It:=TZ.low.i64 zl;have Av:=TZ.low.i64 Yf;obtain⟨y1,DP⟩:∃ y1,t3.low (v:Int)=y1:=⟨_,rfl⟩;obtain⟨y2,Hv⟩:∃ y2,t3.low (x:Int)=y2:=⟨_,rfl⟩;rw[DP] at lv It;rw[Hv] at lx Av;have Yn:=lh (Ig It Av);clear It Av;have HY1:=lh DP;have HY2:=lh Hv;clear TZ DP Hv
   go_wp2_with fail
   have aW:ag [] w3 w3.drew:=(ag.refl [] w3).drew;refine ar (ag [] w3) [0,1,2,3,4,5,6,7,8,9,10,11,12,13,14,15,16,17,18,19,20] (Way.line [0,1,2,3,4,5,6,7,8,9,10,11,12,13,14,15,16,17,18,19,20,21] .done) (by kernel_rfl) (by kernel_rfl) ?_;simp only[Way.line]
   repeat (refine ai (v:=?_) rfl (by rfl) (by rfl) (fun _ _ _ h=>h) aW (fun w' aI=>?_) ?_;rotate_left;(focus (have gB:=aI.c z4;have gQ:=aI.c lv;have np:=aI.c lx;clear aI;go_simp;try with_reducible rfl));simp only[Qa,Z1,Z2,Z3,Z4,Z5,Z6])
   refine au rfl (by rfl) (by rfl) (fun K hK=>?_);go_simp;refine hK.out _ _ (fun h=>absurd h (Qb.1 (by kernel_rfl))) ?_;clear hK K
   try simp only[Qa,Z1,Z2,Z3,Z4,Z5,Z6]
   refine aC ?_;have Mn:=lh (show cX k g (w3.setCell ⟨k.lb,v,none⟩ (.int .i64 (min y1 y2))).drew (t3.lower v y2) ev3 m3 F3 by
    have:=(HF3.out.Gn HK.out zl Yn.out).fresh (ag.refl [] _).drew;unfold Plain.dI.lower;rw[HY1.out];exact this)
   clear HF3 z3 z4 lv lx lf aW;generalize (w3.setCell ⟨k.lb,v,none⟩ (.int .i64 (min y1 y2))).drew=w4 at *;obtain⟨-,-,-,z3,z4,-,-,-⟩:=Mn.out.eight;have lx:=Mn.out.low.cell Yf;have mv:=Mn.out.met.cell zl;rw[show (t3.lower v y2).low (x:Int)=y2 from (Plain.mD TF.out).trans HY2.out] at lx;obtain⟨y3,hy3⟩:∃ y3,(t3.lower v y2).met (v:Int)=y3:=⟨_,rfl⟩;rw[hy3] at mv;have HY3:=lh (show t3.met (v:Int)=y3 from hy3);clear hy3
   go_wp2_with fail
   have aW:ag [] w4 w4.drew:=(ag.refl [] w4).drew;refine ar (ag [] w4) [0,1,2,3,4,5,6,7,8,9,10,11,12,13,14] (Way.line [0,1,2,3,4,5,6,7,8,9,10,11,12,13,14] .done) (by kernel_rfl) (by kernel_rfl) ?_;simp only[Way.line]
   repeat (refine ai (v:=?_) rfl (by rfl) (by rfl) (fun _ _ _ h=>h) aW (fun w' aI=>?_) ?_;rotate_left;(focus (have gB:=aI.c z3;have gQ:=aI.c z4;have np:=aI.c lx;have Hg:=aI.c mv;clear aI;go_simp;try with_reducible rfl));simp only[Qa,Z1,Z2,Z3,Z4,Z5,Z6])
   refine aC ?_;have U6:=lh (Mn.out.fresh aW);clear Mn aW z3 z4 lx mv;generalize w4.drew=w5 at *;have wZ:=lh (show m3+(t3.lower v y2).ed.length+Plain.vJ g p (t3.lower v y2)+(r+(D.length - (j+1)))<=100000 from acn);have ga:=lh (show (t3.lower v y2).fe+Plain.vJ g p (t3.lower v y2)<=100000 from ZF);clear acn ZF;by_cases c5:y3<=y2
   ·have b5:decide (y2 ≥ y3)=true:=decide_eq_true c5
    have HBK:=lh (show (t3).back v x en=(t3.lower v y2).take en by
     unfold Plain.dI.back;rw[HY2.out,HY3.out,if_pos c5])
    have b6:decide (y3<=y2)=true:=decide_eq_true c5;have b7:¬ y2<y3:=Int.not_lt.2 c5
    go_wp2_with fail
    refine (JW k g p HK.out (t3.lower v y2) en (r+(D.length - (j+1))) w5 aiH.out ⟨_,_,_,U6.out,wZ.out,ga.out⟩).mono ?_;rintro _ w6 ⟨rfl,hv6⟩;go_wp2
    go_roundw
    case rel =>
     refine⟨j+1,by omega,by go_num,_,rfl,?_,?_⟩
     ·rw[Dq.out,DG.out,HBK.out]
      exact hv6
     rw[Dq.out,XS.out];exact X5.out
    case measure=>simp[intOf];omega
   have b5:decide (y2 ≥ y3)=false:=decide_eq_false c5;have HBK:=lh (show (t3).back v x en=t3.lower v y2 by
    unfold Plain.dI.back;rw[HY2.out,HY3.out,if_neg c5])
   have b6:decide (y3<=y2)=false:=decide_eq_false c5;have b7:y2<y3:=Int.not_le.1 c5;go_wp2
   go_roundw
   case rel =>
    refine⟨j+1,by omega,by go_num,_,rfl,?_,?_⟩
    ·rw[Dq.out,DG.out,HBK.out]
     exact⟨_,_,_,U6.out,wZ.out,ga.out⟩
    rw[Dq.out,XS.out];exact X5.out
   case measure=>simp[intOf];omega
  have b3:(tm==0)=false:=by simp[c3]
  have mv:=oh.out.met.cell zl;obtain⟨tv,htv⟩:∃ tv,t.met (v:Int)=tv:=⟨_,rfl⟩;have LW:=lh htv;rw[htv] at mv;clear htv;have ajq:=lh (show m1+t.ed.length+Plain.vJ g p t+(r+(D.length - (j+1)))<=100000 by omega);have TF:=lh (show ¬ (x:Int)=(v:Int) by omega);have Yi:=lh (show 0<k.n by omega);by_cases c4:tm<tv
  ·have b4:decide (tm<tv)=true:=decide_eq_true c4
   have Cq:=lh (show m1+(t.push en).ed.length+Plain.vJ g p (t.push en)+(r+(D.length - (j+1)))<=100000 by
    show m1+(t.ed++[(en:Int)]).length+Plain.vJ g p t+(r+(D.length - (j+1)))<=100000;rw[Qc];simp only[Qd,Qe];omega)
   have DG:=lh (show Plain.fV (Plain.visit g p N) g v via t dn=(t.push en).lower v tm from by
    unfold Plain.fV;rw[HX.out,if_neg TF.out,KW.out,if_neg c2,if_neg (by rw[Br.out];exact c3),Br.out,LW.out,if_pos c4])
   have q6:=oh.out.free 6;obtain⟨eo1,Y4,rfl⟩:=oh.out.ed.shape;have te:=lh (show k.pb ∉ aE (.slice eo1 t.ed.length Y4) from fun q=>by
    rw[oh.out.ed.aE] at q;have:=(oh.out.ed.low _ q).1;have:=HK.out.lt k.pb (by simp[FK.own]);omega)
   have HL9:=lh (show t.ed.length<4294967290 by omega);clear lA h0
   go_wp2_with fail
   have aW:ag [] w2 w2.drew:=(ag.refl [] w2).drew;refine ar (ag [] w2) [0,1,2,3,4,5,6,7,8,9,10,11,12,13,14,15] (Way.line [0,1,2,3,4,5,6,7,8,9,10,11,12,13,14,15] .done) (by kernel_rfl) (by kernel_rfl) ?_;simp only[Way.line]
   repeat (refine ai (v:=?_) rfl (by rfl) (by rfl) (fun _ _ _ h=>h) aW (fun w' aI=>?_) ?_;rotate_left;(focus (have gB:=aI.c a3;have gQ:=aI.c XM;have np:=aI.c mv;clear aI;go_simp;try with_reducible rfl));simp only[Qa,Z1,Z2,Z3,Z4,Z5,Z6])
   refine aC ?_;have a6:=aW.c a6;have q6:=aW.frozen a6 q6 (by simp);have MA:=lh (oh.out.fresh aW);have HMV:=lh (aW.c mv);clear aW a3 a4 a7 XM mv oh;generalize w2.drew=w3 at *
   go_wp2_with (first
    | (at_builtin;refine gA rfl _ _ rfl (B:=k.w0.heap.size) (v:=.slice eo1 _ Y4) rfl rfl MA.out.ed IE.out MA.out.aD.size HL9.out rfl ?_;intro v6 w6 r6 c6 f6;obtain⟨o6,n6,rfl⟩:=r6.shape;have R6:=lh r6;have C6:=lh c6;have F6:=lh f6;have d6:=c6.cell a6 te.out;have g6:=c6.frozen a6 q6 te.out;clear r6 c6 f6)
    | fail)
   have xo:=lh (MA.out.push HK.out R6.out C6.out F6.out);clear d6 g6 a6 q6 R6 C6 F6 te MA;rw[show (t.ed++[(en:Int)]).length=t.ed.length+1 by simp] at xo;generalize w6.setCell ⟨k.pb,6,none⟩ (.slice o6 (t.ed.length+1) n6)=w7 at *;obtain⟨-,-,-,z3,z4,-,-,-⟩:=xo.out.eight;have lv:=xo.out.low.cell zl;have mx:=xo.out.met.cell Yf;have lf:=xo.out.low.free Yi.out v;have It:=xo.out.low.i64 zl;have Av:=xo.out.met.i64 Yf;have Hv:(t.push en).met (x:Int)=tm:=Br.out;rw[Hv] at mx Av;obtain⟨y1,DP⟩:∃ y1,(t.push en).low (v:Int)=y1:=⟨_,rfl⟩;rw[DP] at lv It;have HY1:=lh DP;have Yn:=lh (Ig It Av);clear It Av DP Hv
   go_wp2_with fail
   have aW:ag [] w7 w7.drew:=(ag.refl [] w7).drew;refine ar (ag [] w7) [0,1,2,3,4,5,6,7,8,9,10,11,12,13,14,15,16,17,18,19,20] (Way.line [0,1,2,3,4,5,6,7,8,9,10,11,12,13,14,15,16,17,18,19,20,21] .done) (by kernel_rfl) (by kernel_rfl) ?_;simp only[Way.line]
   repeat (refine ai (v:=?_) rfl (by rfl) (by rfl) (fun _ _ _ h=>h) aW (fun w' aI=>?_) ?_;rotate_left;(focus (have gB:=aI.c z3;have gQ:=aI.c z4;have np:=aI.c lv;have Hg:=aI.c mx;clear aI;go_simp;try with_reducible rfl));simp only[Qa,Z1,Z2,Z3,Z4,Z5,Z6])
   refine au rfl (by rfl) (by rfl) (fun K hK=>?_);go_simp;refine hK.out _ _ (fun h=>absurd h (Qb.1 (by kernel_rfl))) ?_;clear hK K
   try simp only[Qa,Z1,Z2,Z3,Z4,Z5,Z6]
   refine aC ?_;have Mn:=lh (show cX k g (w7.setCell ⟨k.lb,v,none⟩ (.int .i64 (min y1 tm))).drew ((t.push en).lower v tm) _ m1 F1 by
    have:=(xo.out.Gn HK.out zl Yn.out).fresh (ag.refl [] _).drew;unfold Plain.dI.lower;rw[HY1.out];exact this)
   clear z3 z4 lv mx lf aW xo;generalize (w7.setCell ⟨k.lb,v,none⟩ (.int .i64 (min y1 tm))).drew=w8 at *;have ga:=lh (show ((t.push en).lower v tm).fe+Plain.vJ g p ((t.push en).lower v tm)<=100000 from DX);have wZ:=lh (show m1+((t.push en).lower v tm).ed.length+Plain.vJ g p ((t.push en).lower v tm)+(r+(D.length - (j+1)))<=100000 from Cq.out);go_wp2
   go_roundw
   case rel =>
    refine⟨j+1,by omega,by go_num,_,rfl,?_,?_⟩
    ·rw[Dq.out,DG.out]
     exact⟨_,_,_,Mn.out,wZ.out,ga.out⟩
    rw[Dq.out,XS.out];exact X5.out
   case measure=>simp[intOf];omega
  have b4:decide (tm<tv)=false:=decide_eq_false c4;have DG:=lh (show Plain.fV (Plain.visit g p N) g v via t dn=t from by
   unfold Plain.fV;rw[HX.out,if_neg TF.out,KW.out,if_neg c2,if_neg (by rw[Br.out];exact c3),Br.out,LW.out,if_neg c4])
  have VO:=lh DX;clear lA h0 ZA DX
  go_wp2_with fail
  have aW:ag [] w2 w2.drew:=(ag.refl [] w2).drew;refine ar (ag [] w2) [0,1,2,3,4,5,6,7,8,9,10,11,12,13,14,15] (Way.line [0,1,2,3,4,5,6,7,8,9,10,11,12,13,14,15] .done) (by kernel_rfl) (by kernel_rfl) ?_;simp only[Way.line]
  repeat (refine ai (v:=?_) rfl (by rfl) (by rfl) (fun _ _ _ h=>h) aW (fun w' aI=>?_) ?_;rotate_left;(focus (have gB:=aI.c a3;have gQ:=aI.c XM;have np:=aI.c mv;clear aI;go_simp;try with_reducible rfl));simp only[Qa,Z1,Z2,Z3,Z4,Z5,Z6])
  refine aC ?_;have MA:=lh (oh.out.fresh aW);clear aW a3 a4 a6 a7 XM mv oh;generalize w2.drew=w3 at *;go_wp2
  go_roundw
  case rel =>
   refine⟨j+1,by omega,by go_num,_,rfl,?_,?_⟩
   ·rw[Dq.out,DG.out]
    exact⟨_,_,_,MA.out,ajq.out,VO.out⟩
   rw[Dq.out,XS.out];exact X5.out
  case measure=>simp[intOf];omega
theorem uu (k:FK) (g:Plain.Gr) (p:Plain.Pt) (hk:k.Ok) (hh:k.Has g p) (hp:Plain.aB g p):∀ N,Vn g p k N
 | 0=>fun s A v via r w hE hu _=>by
  have:0<Plain.Jd p s:=List.length_pos_of_mem (List.mem_filter.2 ⟨hE.vV,decide_eq_true hE.vn⟩);omega
 | N+1=>JJ k g p hk hh hp N (uu k g p hk hh hp N)
end Go.Proofs.YtoiflofhcmjpoaaGreat
