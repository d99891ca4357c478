/- block.target, finder.visit: contracts. Conditions: what each theorem says. -/
import Derived.Test.YtbkjljffnkdcjaaGreatD9Finder
open Go.Act renaming put→Qa
open Array renaming getElem?_eq_some_iff→Qb,getElem?_eq_getElem→Qc,getElem?_eq_none→Qg,replicate→Qi
open List renaming getElem?_zip_eq_some→Qd,getD→Qf,getElem?_dropLast→Qh,contains_iff_mem→Qj,length_append→Qk,length_cons→Qm,all_eq_true→Qn,length_nil→Qo
open Bool renaming eq_false_iff→Qe
open Nat renaming zero_add→Ql,lt_or_ge→Qp,zero_le→Qq
namespace Go.Proofs.YtbkjljffnkdcjaaGreat
open Go.RowKit Go.Maps
theorem DB (v:Value) (g:Plain.Gr) (d:Nat) (w:World) (hd:d / 2<g.e.length) (_hm:g.e.length<4294967296) (h:dU w v g) :
  Calls Tryz.prog 172 #[v,.int .i64 d] w fun e w'=>e=.returned (.int .i64 (g.head d))/\ai [] w w':=by
 obtain⟨eo,cap,rfl,-,-,-,aO⟩:=h;obtain⟨b,off,rfl,gy,cG⟩:=aO (d / 2) hd;have b8:=lh ((ai.refl [] w).alloc (.cells #[.int .i64 g.n,.slice (some ⟨b,off,none⟩) g.e.length cap] 24));obtain⟨e,he⟩:∃ e,d / 2=e:=⟨_,rfl⟩;rw[he] at hd gy cG;have c0:=fun o=>dC gy o;have c1:=fun o=>dC cG o;clear aO gy cG;rcases (show d=2*e\/d=2*e+1 by omega) with rfl | rfl
 ·obtain⟨q1,q2⟩:=rF e
  have HE:=lh (kj g e).2;rw[HE.out];clear he;generalize ((2*e:Nat):Int)=dd at *;generalize (g.ends e).1=x at *;generalize (g.ends e).2=y at *
  go_enter Tryz.func172,Tryz.ntmps172
  go_wp2;go_ret;exact⟨rfl,b8.out⟩
 obtain⟨q1,q2⟩:=vM e;have HE:=lh (lU g e).2;rw[HE.out];clear he;generalize ((2*e+1:Nat):Int)=dd at *;generalize (g.ends e).1=x at *;generalize (g.ends e).2=y at *
 go_enter Tryz.func172,Tryz.ntmps172
 go_wp2;go_ret;exact⟨rfl,b8.out⟩
theorem dU.aM {w w':World} {n:Int} {ge:Value} {g:Plain.Gr} {own:List Nat} (h:dU w (.agg #[.int .i64 n,ge]) g) (hc:ai own w w') (hn:0<g.e.length->∀ b n c,ge=.slice (some b) n c->b.block ∉ own):dU w' (.agg #[.int .i64 n,ge]) g:=by
 obtain⟨eo,cap,e,h1,h2,h3,h4⟩:=h;simp only[Value.agg.injEq,Array.mk.injEq,List.cons.injEq,Value.int.injEq,true_and,and_true] at e;obtain⟨rfl,rfl⟩:=e;refine⟨eo,cap,rfl,h1,h2,h3,fun i hi=>?_⟩;obtain⟨b,off,rfl,e1,e2⟩:=h4 i hi;have hb:=hn (Nat.lt_of_le_of_lt (Qq _) hi) _ _ _ rfl;exact⟨b,off,rfl,hc.cell e1 hb,hc.cell e2 hb⟩
structure FK.Has (k:FK) (g:Plain.Gr) (p:Plain.Pt):Prop where
 n:g.n=k.n
 sn:k.n<=100000
 se:g.e.length<=100000
 he:∀ e∈p.e,e<g.e.length
 gr:dU k.w0 (.agg #[.int .i64 g.n,k.gE]) g
 gro:0<g.e.length->∀ b n c,k.gE=.slice (some b) n c->b.block ∉ k.own
 dv:∃ (db c:Nat) (rv:Nat->Value),k.dv=.slice (some ⟨db,0,none⟩) k.n c/\db ∉ k.own/\∀ v,v<k.n->k.w0.cell? ⟨db,v,none⟩=some (rv v)/\aJ k.w0 (rv v) (Plain.a8 g p v)/\∀ b n c,rv v=.slice (some b) n c->b.block ∉ k.own
theorem J6 {x y:Int} (h1:bn x) (h2:bn y):bn (min x y):=by
 by_cases h:x<=y
 ·rwa[Int.min_eq_left h]
 rwa[Int.min_eq_right (by omega)]
theorem Jt (w:World) (o:Obj):(w.alloc o).heap[w.heap.size]?=some o:=by
 unfold World.alloc;exact Array.getElem?_push_size
theorem Gb (w:World) {B:Nat} (hB:B<=w.heap.size) {x:Int} (hx:bn x):ax (w.alloc (.cells #[.int .i64 x] 3)) B (.slice (some ⟨w.heap.size,0,none⟩) 1 1) [x] :=
 ⟨⟨rfl,Or.inr ⟨w.heap.size,1,#[.int .i64 x],rfl,hB,Jt w _,Nat.le_refl _,by unfold maxLen;decide,rfl,rfl⟩⟩,by simpa using hx,by simp⟩
def X4 (g:Plain.Gr) (p:Plain.Pt) (k:FK) (N:Nat):Prop:=∀ (s:Plain.dG) (A:List Int) (v:Nat) (via:Int) (r:Nat) (w:World),Plain.vm g p s A v via->Plain.BS p s<=N->Fin k g p w s r ->
  Calls Tryz.prog 136 #[.pointer (some ⟨k.pb,0,none⟩),.int .i64 v,.int .i64 via] w fun x w'=>x=.returned (.tuple #[])/\Fin k g p w' (Plain.visit g p N v via s) r
set_option maxRecDepth 100000 in
set_option maxHeartbeats 8000000 in
theorem Mz (k:FK) (g:Plain.Gr) (p:Plain.Pt) (hk:k.Ok) (hh:k.Has g p) (hp:Plain.aH g p) (N:Nat) (ih:X4 g p k N):X4 g p k (N+1):=by
 intro s A v via r w hE hu sK;have HE:=lh hE;have HP:=lh hp;have HIH:=lh ih;have HK:=lh hk;have HH:=lh hh;have HU:=lh hu;obtain⟨ev,m,F,hf,mh,jS⟩:=sK;have oY:=hE.bV.dK;have gJ:=Plain.LD hp hE.vV hE.vn oY;have Ck:v<k.n:=by
  have:=(hp.vr v hE.vV).2;rw[hh.n] at this;omega
 obtain⟨db,dc,rv,Y7,mm,hdr⟩:=hh.dv;obtain⟨fz,cH,pC⟩:=hdr v Ck;obtain⟨D,hD⟩:∃ D,Plain.a8 g p v=D:=⟨_,rfl⟩;rw[hD] at gJ cH;have HD:=lh hD;have HF:=lh hf;obtain⟨-,-,-,-,-,c5,-,-⟩:=hf.eight;have f5:=hf.free 5;obtain⟨c,hc⟩:∃ c,s.dK=c:=⟨_,rfl⟩;have HC:=lh hc;rw[hc] at c5 jS oY;have wc:IntKind.i64.wrap (c+1)=c+1:=IntWalk.i64_in _ (by omega);have Fh:=lh (hf.count hk (c+1));have ZA:=lh (show bn (c+1) from bn.mk (by omega) (by omega));have Bb:=lh mh;have mD:=lh jS;have Jh:=lh gJ;clear hE hp ih hk hh hu hf mh jS gJ hdr hD hc
 go_enter Tryz.func136,Tryz.ntmps136
 go_wp2_with fail
 generalize w.setCell ⟨k.pb,5,none⟩ (.int .i64 (c+1))=wb at *;obtain⟨-,-,a2,a3,a4,a5,-,-⟩:=Fh.out.eight;rw[Y7] at a2;have fm:=Fh.out.met.free (by omega) v;have fl:=Fh.out.low.free (by omega) v;have cm:=Fh.out.met.cell Ck;have cl:=Fh.out.low.cell Ck;have Tu:(v:Int)<(k.n:Int):=by omega
 have bh:=Fh.out.ne;have aD:ai [k.mb] wb wb.drew:=(ai.refl [k.mb] wb).drew;refine au (ai [k.mb] wb) [0,1,2,3,4,5,6,7,8,9,10,11,12,13,14,15,16,17,18,20] (Way.line [0,1,2,3,4,5,6,7,8,9,10,11,12,13,14,15,16,17,18,19,20,21] .done) (by kernel_rfl) (by kernel_rfl) ?_;simp only[Way.line]
 repeat
  first
   | (refine ar rfl (by rfl) (by rfl) (fun _ _ _ h=>h) aD ?_;simp only[Qa,Z1,Z2,Z3,Z4,Z5,Z6])
   | (refine aq (v:=?_) rfl (by rfl) (by rfl) (fun _ _ _ h=>h) aD (fun w' aK=>?_) ?_;rotate_left;(focus (have fU:=aK.cell a3 (by simpa using bh.1);have gX:=aK.cell a4 (by simpa using bh.1);have nP:=aK.cell a5 (by simpa using bh.1);clear aK;go_simp;try with_reducible rfl));simp only[Qa,Z1,Z2,Z3,Z4,Z5,Z6])
   | (refine ak rfl (by rfl) (by rfl) aD ?_;simp only[Qa,Z1,Z2,Z3,Z4,Z5,Z6])
 refine aC rfl (by rfl) (by rfl) (fun K hK=>?_);go_simp;have bD:ai [k.mb] wb (wb.setCell ⟨k.mb,v,none⟩ (.int .i64 (c+1))).drew:=((ai.refl [k.mb] wb).setCell (p:=⟨k.mb,v,none⟩) (Or.inl (by simp)) (.int .i64 (c+1))).drew;have HFM:=lh (Fh.out.Zp HK.out Ck ZA.out);refine hK.out _ _ (fun _=>bD) ?_;clear hK K aD
 try simp only[Qa,Z1,Z2,Z3,Z4,Z5,Z6]
 generalize wb.setCell ⟨k.mb,v,none⟩ (.int .i64 (c+1))=wm at *
 repeat
  first
   | (refine ar rfl (by rfl) (by rfl) (fun _ _ _ h=>h) bD ?_;simp only[Qa,Z1,Z2,Z3,Z4,Z5,Z6])
   | (refine aq (v:=?_) rfl (by rfl) (by rfl) (fun _ _ _ h=>h) bD (fun w' aK=>?_) ?_;rotate_left;(focus (have fU:=aK.cell a3 (by simpa using bh.1);have gX:=aK.cell a4 (by simpa using bh.1);have nP:=aK.cell a5 (by simpa using bh.1);clear aK;go_simp;try with_reducible rfl));simp only[Qa,Z1,Z2,Z3,Z4,Z5,Z6])
   | (refine ak rfl (by rfl) (by rfl) bD ?_;simp only[Qa,Z1,Z2,Z3,Z4,Z5,Z6])
 have fl2:=HFM.out.low.free (by omega) v;have cl2:=HFM.out.low.cell Ck;refine aC rfl (by rfl) (by rfl) (fun K hK=>?_);go_simp;have Jq:=lh (HFM.out.Gv HK.out Ck ZA.out);refine hK.out _ _ (fun h=>absurd h (Qe.1 (by kernel_rfl))) ?_;clear hK K bD
 try simp only[Qa,Z1,Z2,Z3,Z4,Z5,Z6]
 refine aB ?_;generalize wm.setCell ⟨k.lb,v,none⟩ (.int .i64 (c+1))=wl at *;have O7:=lh (show dk k g wl.drew (s.enter v) ev m F by
  have:=Jq.out.fresh (ai.refl [] wl).drew;unfold Plain.dG.enter;rw[HC.out];exact this)
 clear Jq HFM Fh a3 a4 a5 fm fl cm cl fl2 cl2 c5 f5;generalize wl.drew=w1 at *;obtain⟨-,-,a2,-,-,-,-,-⟩:=O7.out.eight;rw[Y7] at a2;have LV:w1.cell? ⟨db,v,none⟩=some (rv v):=O7.out.aM.cell fz (by simpa using mm);have hID:aJ w1 (rv v) D:=cH.aM O7.out.aM pC;have HID:=lh (show ∀ wx,ai k.own k.w0 wx->aJ wx (rv v) D from fun wx hx=>cH.aM hx pC);obtain⟨ao,ac,e,hI,Yf,-⟩:=hID;rw[e] at LV HID;have HI:=lh hI;clear fz cH pC hI e
 go_wp2_with fail
 have abL:=lh (show Fin k g p w1 (s.enter v) (r+D.length) from⟨ev,m,F,O7.out,by
  have h1:=Bb.out;have h2:=Jh.out;show m+s.ed.length+Plain.yF g p (s.enter v)+(r+D.length)<=100000;omega,by
  have h1:=mD.out;have h2:=Jh.out;show s.dK+1+Plain.yF g p (s.enter v)<=100000;rw[HC.out];omega⟩)
 have uJ:=lh (show Plain.cB g p s (s.enter v) A v via [] from Plain.cB.start HP.out HE.out);clear O7 Bb mD Jh ZA a2 LV oY
 go_loopw [7,8,9,45,57,68,72,134] (fun _ _ _ iv _ _ _ _ wr=>∃ j:Nat,j<=D.length/\iv=.int .i64 j/\∃ t,t=(D.take j).foldl (Plain.fg (Plain.visit g p N) g v via) (s.enter v)/\Fin k g p wr t (r+(D.length - j))/\Plain.cB g p s t A v via (D.take j)) (fun _ _ _ iv _ _ _ _ _=>((D.length:Int) - intOf iv).toNat)
 case atStart=>exact⟨0,Qq _,rfl,_,rfl,by rw[Nat.sub_zero];exact abL.out,uJ.out⟩
 case round =>
  obtain⟨j,hj,rfl,t,ht,hft,hsn⟩:=hrel;clear abL uJ;have HT:=lh ht;have uJ:=lh hsn;have A9:=lh hft;clear ht hsn;by_cases h0:j=D.length
  ·subst h0
   have b0:decide ((D.length:Int)<(D.length:Int))=false:=decide_eq_false (by omega);clear hft hj;go_wp2;refine bodyPost_end (v:=.tuple #[]) (by simp[results,Tryz.results136,go_sem]) rfl ?_;refine⟨rfl,?_⟩;have h1:=A9.out;rw[HT.out,List.take_length,Nat.sub_self] at h1;unfold Plain.visit;rw[HD.out];exact h1
  have sH:j<D.length:=by omega
  obtain⟨ev1,m1,F1,Mf,afW,Gj⟩:=hft;have Yj:=lh Mf;have ab1:=lh (HID.out wr Mf.aM);obtain⟨bb,rh,rfl,SR⟩:=ab1.out.cellAt sH;have zD:D.getD j 0∈D:=Plain.aZ sH;obtain⟨d,hd⟩:∃ d,D.getD j 0=d:=⟨_,rfl⟩;rw[hd] at zD SR;have aab:d∈Plain.a8 g p v:=by rw[HD.out];exact zD
  obtain⟨mj,yN⟩:=Plain.bk.1 aab;have mn:=Plain.aw.1 mj;have Ij:=HP.out.er _ mn;have aU:=HH.out.he _ mn;obtain⟨dn,rfl⟩:∃ dn:Nat,d=dn:=⟨d.toNat,by omega⟩;obtain⟨en,kQ⟩:∃ en,dn / 2=en:=⟨_,rfl⟩;have Gf:((dn:Int) / 2)=(en:Int):=by omega
  rw[Gf] at mn aU;have PT:dn / 2<g.e.length:=by omega
  have hq:Int.tdiv (dn:Int) 2=(en:Int):=by rw[Int.tdiv_eq_ediv_of_nonneg (by omega)];omega
  have hxv:=(HP.out.aQ mj).2;have ZL:=HP.out.vr _ hxv;obtain⟨x,hx⟩:∃ x:Nat,g.head (dn:Int)=x:=⟨(g.head dn).toNat,by omega⟩;rw[hx] at hxv ZL;have Vp:x<k.n:=by have:=ZL.2;rw[HH.out.n] at this;omega
  have HX:=lh hx;have SF:=lh Gf;have zm:(dn:Int) ∉ D.take j:=fun q=>by
   have fs:D.Nodup:=by rw[<-HD.out];exact Plain.jr HP.out.en v
   obtain⟨i,Nc,JG⟩:=List.mem_iff_getElem.1 q;rw[List.getElem_take] at JG;rw[List.length_take] at Nc;have h3:D[j]=(dn:Int):=by rw[<-hd];simp[Qf,sH]
   exact (List.pairwise_iff_getElem.1 fs i j (by omega) sH (by omega)) (by rw[JG,h3])
  have HST:=lh (uJ.out.step HP.out HE.out HU.out aab zm);have hts:D.take (j+1)=D.take j++[(dn:Int)]:=by
   rw[List.take_succ_eq_append_getElem sH]
   congr 2
   rw[<-hd];simp[Qf,sH]
  have HTS:=lh hts;have Fs:=lh (show (D.take (j+1)).foldl (Plain.fg (Plain.visit g p N) g v via) (s.enter v)=Plain.fg (Plain.visit g p N) g v via t dn by rw[hts,List.foldl_append,<-HT.out];rfl);have lp:(j:Int)<(D.length:Int):=by omega
  have Cb:=lh (show ∀ wx,ai k.own k.w0 wx->dU wx (.agg #[.int .i64 g.n,k.gE]) g from fun wx hc=>HH.out.gr.aM hc HH.out.gro);obtain⟨a0,a1,-,-,-,-,-,-⟩:=Mf.eight;have TU:=lh mj;have HDT:=lh yN;clear Mf hd zD aab mj yN hts hx kQ zm
  go_wp2_with fail
  refine (DB _ g dn wr PT (by have:=HH.out.se;omega) (Cb.out wr Yj.out.aM)).mono ?_;rintro _ w2 ⟨rfl,bG⟩;rw[HX.out];have qg:=lh (Yj.out.fresh bG);obtain⟨-,-,-,a3,a4,-,a6,a7⟩:=qg.out.eight;have IE:=lh (show bn (en:Int) from bn.mk (by omega) (by have:=HH.out.se;omega));clear Yj A9 ab1 Cb SR a0 a1 bG hq PT;have wq:wrap64 (en:Int)=(en:Int):=IntWalk.wrap64_in _ (by have:=HH.out.se;omega);by_cases c1:x=v
  ·have b1:((x:Int)==(v:Int))=true:=by simp[c1]
   have uP:Plain.fg (Plain.visit g p N) g v via t dn=t.lay en:=by
    unfold Plain.fg;rw[HX.out,if_pos (by rw[c1]),SF.out]
   have HA:=lh (qg.out.fresh ((ai.refl [] w2).alloc (.cells #[.int .i64 (en:Int)] 3)));have HRS:=lh (Gb w2 (B:=k.w0.heap.size) qg.out.aM.size IE.out);have Fq:=lh (show ∀ b,ev1.ownBlock=some b->b<w2.heap.size from fun b hb=>(qg.out.ed.low b (by simp[hb])).2);clear lp h0
   go_wp2_with (first
    | (at_mapUpdate;refine MM rfl _ _ _ rfl HA.out.map (by unfold maxLen;omega) rfl IE.out rfl rfl (xu.some _ _ _ _) ?_;intro w6 m6 c6;have M6:=lh m6;have C6:=lh c6;clear m6 c6)
    | fail)
   go_roundw
   case rel =>
    have h1:=HA.out.put HK.out (l:=[(en:Int)]) HRS.out (fun b hb q=>by
     have e1:w2.heap.size=b:=by simpa[Value.ownBlock] using hb
     have:=Fq.out b q;omega) C6.out M6.out
    refine⟨j+1,by omega,by go_num,t.lay en,?_,⟨_,_,_,h1,?_,Gj⟩,?_⟩
    ·rw[Fs.out,uP]
    ·show m1+1+t.ed.length+Plain.yF g p t+(r+(D.length - (j+1)))<=100000
     omega
    rw[HTS.out,<-uP];exact HST.out
   case measure=>simp[intOf];omega
  have b1:((x:Int)==(v:Int))=false:=by simp;omega
  by_cases c2:(en:Int)=via
  ·have b2:((en:Int)==via)=true:=by simp[c2]
   have uP:Plain.fg (Plain.visit g p N) g v via t dn=t:=by
    unfold Plain.fg;rw[HX.out,if_neg (by omega),SF.out,if_pos c2]
   clear lp h0 c2;go_wp2
   go_roundw
   case rel =>
    refine⟨j+1,by omega,by go_num,t,by rw[Fs.out,uP],⟨_,_,_,qg.out,by omega,Gj⟩,?_⟩;have h1:=HST.out;rw[uP] at h1;rw[HTS.out];exact h1
   case measure=>simp[intOf];omega
  have b2:((en:Int)==via)=false:=by simp[c2]
  have Ep:=qg.out.ne;have cmx:=qg.out.met.cell Vp;have hxi:(x:Int)<(k.n:Int):=by omega
  obtain⟨tm,Bp⟩:∃ tm,t.met (x:Int)=tm:=⟨_,rfl⟩;have KK:=lh Bp;rw[Bp] at cmx;clear Bp;by_cases c3:tm=0
  ·have b3:(tm==0)=true:=by simp[c3]
   have DK:=lh (show m1+(t.push en).ed.length+Plain.yF g p (t.push en)+(r+(D.length - (j+1)))<=100000 by
    show m1+(t.ed++[(en:Int)]).length+Plain.yF g p t+(r+(D.length - (j+1)))<=100000;rw[Qk];simp only[Qm,Qo];omega)
   have Wc:=lh (show ¬ (x:Int)=(v:Int) by omega);have sF:=qg.out.low.free (by omega) v;have Gk:=lh (show Plain.fg (Plain.visit g p N) g v via t dn=(Plain.visit g p N x en (t.push en)).back v x en from by
    unfold Plain.fg;rw[HX.out,if_neg Wc.out,SF.out,if_neg c2,if_pos (by rw[KK.out];exact c3)])
   have XB:=lh (show t.met (g.head dn)=0 by rw[HX.out,KK.out];exact c3);have HEX:=lh (uJ.out.ent HP.out HE.out TU.out HDT.out XB.out);have HUX:=lh (uJ.out.less (d:=(dn:Int) / 2) HE.out HU.out);rw[HX.out,SF.out] at HEX;rw[SF.out] at HUX;have HSX:=lh (Plain.qX HP.out N _ _ _ _ HEX.out HUX.out);have HNP:=lh (show 0<k.n by omega);clear lp h0 sF;have q6:=qg.out.free 6;obtain⟨eo1,ec1,rfl⟩:=qg.out.ed.shape;have rJ:=lh (show k.pb ∉ aL (.slice eo1 t.ed.length ec1) from fun q=>by
    rw[qg.out.ed.aL] at q;have:=(qg.out.ed.low _ q).1;have:=HK.out.lt k.pb (by simp[FK.own]);omega)
   go_wp2_with (first
    | (at_builtin;refine fA rfl _ _ rfl (B:=k.w0.heap.size) (v:=.slice eo1 _ ec1) rfl rfl qg.out.ed IE.out qg.out.aM.size (by omega) rfl ?_;intro v6 w6 r6 c6 f6;obtain⟨o6,n6,rfl⟩:=r6.shape;have R6:=lh r6;have C6:=lh c6;have F6:=lh f6;have d6:=c6.cell a6 rJ.out;have g6:=c6.frozen a6 q6 rJ.out;clear r6 c6 f6)
    | fail)
   have yS:=lh (qg.out.push HK.out R6.out C6.out F6.out);clear d6 g6 a3 a4 a6 a7 q6 R6 C6 F6 rJ;rw[show (t.ed++[(en:Int)]).length=t.ed.length+1 by simp] at yS;generalize w6.setCell ⟨k.pb,6,none⟩ (.slice o6 (t.ed.length+1) n6)=w7 at *;refine (HIH.out (t.push en) (A++[(v:Int)]) x en (r+(D.length - (j+1))) w7 HEX.out HUX.out ⟨_,_,_,yS.out,?_,Gj⟩).mono ?_
   ·exact DK.out
   rintro _ w3 ⟨rfl,hv3⟩;obtain⟨t3,Fv⟩:∃ t3,Plain.visit g p N x en (t.push en)=t3:=⟨_,rfl⟩;rw[Fv] at HSX hv3 Gk;have PT:(en:Int)∈t3.ed:=by
    obtain⟨R,N',e1,-⟩:=HSX.out.yk;rw[e1];show (en:Int)∈(t.ed++[(en:Int)])++R;simp
   have ajV:=lh PT;clear yS HEX HUX HSX Fv PT XB afW Gj qg Ep cmx KK HIH HID;obtain⟨ev3,m3,F3,Vu,ago,abT⟩:=hv3;have HF3:=lh Vu;obtain⟨-,-,-,z3,z4,-,-,-⟩:=Vu.eight;have lv:=Vu.low.cell Ck;have lx:=Vu.low.cell Vp;have lf:=Vu.low.free HNP.out v;have Nc:=Vu.low.i64 Ck;have JG:=Vu.low.i64 Vp;obtain⟨y1,Gq⟩:∃ y1,t3.low (v:Int)=y1:=⟨_,rfl⟩;obtain⟨y2,J5⟩:∃ y2,t3.low (x:Int)=y2:=⟨_,rfl⟩;rw[Gq] at lv Nc;rw[J5] at lx JG;have HMI:=lh (J6 Nc JG);clear Nc JG;have HY1:=lh Gq;have HY2:=lh J5;clear Vu Gq J5
   go_wp2_with fail
   have aD:ai [] w3 w3.drew:=(ai.refl [] w3).drew;refine au (ai [] w3) [0,1,2,3,4,5,6,7,8,9,10,11,12,13,14,15,16,17,18,19,20] (Way.line [0,1,2,3,4,5,6,7,8,9,10,11,12,13,14,15,16,17,18,19,20,21] .done) (by kernel_rfl) (by kernel_rfl) ?_;simp only[Way.line]
   repeat
    first
     | (refine ar rfl (by rfl) (by rfl) (fun _ _ _ h=>h) aD ?_;simp only[Qa,Z1,Z2,Z3,Z4,Z5,Z6])
     | (refine aq (v:=?_) rfl (by rfl) (by rfl) (fun _ _ _ h=>h) aD (fun w' aK=>?_) ?_;rotate_left;(focus (have fU:=aK.c z4;have gX:=aK.c lv;have nP:=aK.c lx;clear aK;go_simp;try with_reducible rfl));simp only[Qa,Z1,Z2,Z3,Z4,Z5,Z6])
     | (refine ak rfl (by rfl) (by rfl) aD ?_;simp only[Qa,Z1,Z2,Z3,Z4,Z5,Z6])
   refine aC rfl (by rfl) (by rfl) (fun K hK=>?_);go_simp;refine hK.out _ _ (fun h=>absurd h (Qe.1 (by kernel_rfl))) ?_;clear hK K
   try simp only[Qa,Z1,Z2,Z3,Z4,Z5,Z6]
   refine aB ?_;have P3:=lh (show dk k g (w3.setCell ⟨k.lb,v,none⟩ (.int .i64 (min y1 y2))).drew (t3.lower v y2) ev3 m3 F3 by
    have:=(HF3.out.Gv HK.out Ck HMI.out).fresh (ai.refl [] _).drew;unfold Plain.dG.lower;rw[HY1.out];exact this)
   clear HF3 z3 z4 lv lx lf aD;generalize (w3.setCell ⟨k.lb,v,none⟩ (.int .i64 (min y1 y2))).drew=w4 at *;obtain⟨-,-,-,z3,z4,-,-,-⟩:=P3.out.eight;have lx:=P3.out.low.cell Vp;have mv:=P3.out.met.cell Ck;rw[show (t3.lower v y2).low (x:Int)=y2 from (Plain.nT Wc.out).trans HY2.out] at lx;obtain⟨y3,hy3⟩:∃ y3,(t3.lower v y2).met (v:Int)=y3:=⟨_,rfl⟩;rw[hy3] at mv;have HY3:=lh (show t3.met (v:Int)=y3 from hy3);clear hy3
   go_wp2_with fail
   have aD:ai [] w4 w4.drew:=(ai.refl [] w4).drew;refine au (ai [] w4) [0,1,2,3,4,5,6,7,8,9,10,11,12,13,14] (Way.line [0,1,2,3,4,5,6,7,8,9,10,11,12,13,14] .done) (by kernel_rfl) (by kernel_rfl) ?_;simp only[Way.line]
   repeat
    first
     | (refine ar rfl (by rfl) (by rfl) (fun _ _ _ h=>h) aD ?_;simp only[Qa,Z1,Z2,Z3,Z4,Z5,Z6])
     | (refine aq (v:=?_) rfl (by rfl) (by rfl) (fun _ _ _ h=>h) aD (fun w' aK=>?_) ?_;rotate_left;(focus (have fU:=aK.c z3;have gX:=aK.c z4;have nP:=aK.c lx;have Fx:=aK.c mv;clear aK;go_simp;try with_reducible rfl));simp only[Qa,Z1,Z2,Z3,Z4,Z5,Z6])
     | (refine ak rfl (by rfl) (by rfl) aD ?_;simp only[Qa,Z1,Z2,Z3,Z4,Z5,Z6])
   refine aB ?_;have YL:=lh (P3.out.fresh aD);clear P3 aD z3 z4 lx mv;generalize w4.drew=w5 at *;have ze:=lh (show m3+(t3.lower v y2).ed.length+Plain.yF g p (t3.lower v y2)+(r+(D.length - (j+1)))<=100000 from ago);have iP:=lh (show (t3.lower v y2).dK+Plain.yF g p (t3.lower v y2)<=100000 from abT);clear ago abT;by_cases c5:y3<=y2
   ·have b5:decide (y2 ≥ y3)=true:=decide_eq_true c5
    have HBK:=lh (show (t3).back v x en=(t3.lower v y2).take en by
     unfold Plain.dG.back;rw[HY2.out,HY3.out,if_pos c5])
    have b6:decide (y3<=y2)=true:=decide_eq_true c5;have b7:¬ y2<y3:=Int.not_lt.2 c5
    go_wp2_with fail
    refine (Lo k g p HK.out (t3.lower v y2) en (r+(D.length - (j+1))) w5 ajV.out ⟨_,_,_,YL.out,ze.out,iP.out⟩).mono ?_;rintro _ w6 ⟨rfl,hv6⟩;go_wp2
    go_roundw
    case rel =>
     refine⟨j+1,by omega,by go_num,_,rfl,?_,?_⟩
     ·rw[Fs.out,Gk.out,HBK.out]
      exact hv6
     rw[Fs.out,HTS.out];exact HST.out
    case measure=>simp[intOf];omega
   have b5:decide (y2 ≥ y3)=false:=decide_eq_false c5;have HBK:=lh (show (t3).back v x en=t3.lower v y2 by
    unfold Plain.dG.back;rw[HY2.out,HY3.out,if_neg c5])
   have b6:decide (y3<=y2)=false:=decide_eq_false c5;have b7:y2<y3:=Int.not_le.1 c5;go_wp2
   go_roundw
   case rel =>
    refine⟨j+1,by omega,by go_num,_,rfl,?_,?_⟩
    ·rw[Fs.out,Gk.out,HBK.out]
     exact⟨_,_,_,YL.out,ze.out,iP.out⟩
    rw[Fs.out,HTS.out];exact HST.out
   case measure=>simp[intOf];omega
  have b3:(tm==0)=false:=by simp[c3]
  have mv:=qg.out.met.cell Ck;obtain⟨tv,htv⟩:∃ tv,t.met (v:Int)=tv:=⟨_,rfl⟩;have Oj:=lh htv;rw[htv] at mv;clear htv;have ala:=lh (show m1+t.ed.length+Plain.yF g p t+(r+(D.length - (j+1)))<=100000 by omega);have Wc:=lh (show ¬ (x:Int)=(v:Int) by omega);have HNP:=lh (show 0<k.n by omega);by_cases c4:tm<tv
  ·have b4:decide (tm<tv)=true:=decide_eq_true c4
   have DK:=lh (show m1+(t.push en).ed.length+Plain.yF g p (t.push en)+(r+(D.length - (j+1)))<=100000 by
    show m1+(t.ed++[(en:Int)]).length+Plain.yF g p t+(r+(D.length - (j+1)))<=100000;rw[Qk];simp only[Qm,Qo];omega)
   have Gk:=lh (show Plain.fg (Plain.visit g p N) g v via t dn=(t.push en).lower v tm from by
    unfold Plain.fg;rw[HX.out,if_neg Wc.out,SF.out,if_neg c2,if_neg (by rw[KK.out];exact c3),KK.out,Oj.out,if_pos c4])
   have q6:=qg.out.free 6;obtain⟨eo1,ec1,rfl⟩:=qg.out.ed.shape;have rJ:=lh (show k.pb ∉ aL (.slice eo1 t.ed.length ec1) from fun q=>by
    rw[qg.out.ed.aL] at q;have:=(qg.out.ed.low _ q).1;have:=HK.out.lt k.pb (by simp[FK.own]);omega)
   have HL9:=lh (show t.ed.length<4294967290 by omega);clear lp h0
   go_wp2_with fail
   have aD:ai [] w2 w2.drew:=(ai.refl [] w2).drew;refine au (ai [] w2) [0,1,2,3,4,5,6,7,8,9,10,11,12,13,14,15] (Way.line [0,1,2,3,4,5,6,7,8,9,10,11,12,13,14,15] .done) (by kernel_rfl) (by kernel_rfl) ?_;simp only[Way.line]
   repeat
    first
     | (refine ar rfl (by rfl) (by rfl) (fun _ _ _ h=>h) aD ?_;simp only[Qa,Z1,Z2,Z3,Z4,Z5,Z6])
     | (refine aq (v:=?_) rfl (by rfl) (by rfl) (fun _ _ _ h=>h) aD (fun w' aK=>?_) ?_;rotate_left;(focus (have fU:=aK.c a3;have gX:=aK.c cmx;have nP:=aK.c mv;clear aK;go_simp;try with_reducible rfl));simp only[Qa,Z1,Z2,Z3,Z4,Z5,Z6])
     | (refine ak rfl (by rfl) (by rfl) aD ?_;simp only[Qa,Z1,Z2,Z3,Z4,Z5,Z6])
   refine aB ?_;have a6:=aD.c a6;have q6:=aD.frozen a6 q6 (by simp);have PF:=lh (qg.out.fresh aD);have HMV:=lh (aD.c mv);clear aD a3 a4 a7 cmx mv qg;generalize w2.drew=w3 at *
   go_wp2_with (first
    | (at_builtin;refine fA rfl _ _ rfl (B:=k.w0.heap.size) (v:=.slice eo1 _ ec1) rfl rfl PF.out.ed IE.out PF.out.aM.size HL9.out rfl ?_;intro v6 w6 r6 c6 f6;obtain⟨o6,n6,rfl⟩:=r6.shape;have R6:=lh r6;have C6:=lh c6;have F6:=lh f6;have d6:=c6.cell a6 rJ.out;have g6:=c6.frozen a6 q6 rJ.out;clear r6 c6 f6)
    | fail)
   have yS:=lh (PF.out.push HK.out R6.out C6.out F6.out);clear d6 g6 a6 q6 R6 C6 F6 rJ PF;rw[show (t.ed++[(en:Int)]).length=t.ed.length+1 by simp] at yS;generalize w6.setCell ⟨k.pb,6,none⟩ (.slice o6 (t.ed.length+1) n6)=w7 at *;obtain⟨-,-,-,z3,z4,-,-,-⟩:=yS.out.eight;have lv:=yS.out.low.cell Ck;have mx:=yS.out.met.cell Vp;have lf:=yS.out.low.free HNP.out v;have Nc:=yS.out.low.i64 Ck;have JG:=yS.out.met.i64 Vp;have J5:(t.push en).met (x:Int)=tm:=KK.out;rw[J5] at mx JG;obtain⟨y1,Gq⟩:∃ y1,(t.push en).low (v:Int)=y1:=⟨_,rfl⟩;rw[Gq] at lv Nc;have HY1:=lh Gq;have HMI:=lh (J6 Nc JG);clear Nc JG Gq J5
   go_wp2_with fail
   have aD:ai [] w7 w7.drew:=(ai.refl [] w7).drew;refine au (ai [] w7) [0,1,2,3,4,5,6,7,8,9,10,11,12,13,14,15,16,17,18,19,20] (Way.line [0,1,2,3,4,5,6,7,8,9,10,11,12,13,14,15,16,17,18,19,20,21] .done) (by kernel_rfl) (by kernel_rfl) ?_;simp only[Way.line]
   repeat
    first
     | (refine ar rfl (by rfl) (by rfl) (fun _ _ _ h=>h) aD ?_;simp only[Qa,Z1,Z2,Z3,Z4,Z5,Z6])
     | (refine aq (v:=?_) rfl (by rfl) (by rfl) (fun _ _ _ h=>h) aD (fun w' aK=>?_) ?_;rotate_left;(focus (have fU:=aK.c z3;have gX:=aK.c z4;have nP:=aK.c lv;have Fx:=aK.c mx;clear aK;go_simp;try with_reducible rfl));simp only[Qa,Z1,Z2,Z3,Z4,Z5,Z6])
     | (refine ak rfl (by rfl) (by rfl) aD ?_;simp only[Qa,Z1,Z2,Z3,Z4,Z5,Z6])
   refine aC rfl (by rfl) (by rfl) (fun K hK=>?_);go_simp;refine hK.out _ _ (fun h=>absurd h (Qe.1 (by kernel_rfl))) ?_;clear hK K
   try simp only[Qa,Z1,Z2,Z3,Z4,Z5,Z6]
   refine aB ?_;have P3:=lh (show dk k g (w7.setCell ⟨k.lb,v,none⟩ (.int .i64 (min y1 tm))).drew ((t.push en).lower v tm) _ m1 F1 by
    have:=(yS.out.Gv HK.out Ck HMI.out).fresh (ai.refl [] _).drew;unfold Plain.dG.lower;rw[HY1.out];exact this)
   clear z3 z4 lv mx lf aD yS;generalize (w7.setCell ⟨k.lb,v,none⟩ (.int .i64 (min y1 tm))).drew=w8 at *;have iP:=lh (show ((t.push en).lower v tm).dK+Plain.yF g p ((t.push en).lower v tm)<=100000 from Gj);have ze:=lh (show m1+((t.push en).lower v tm).ed.length+Plain.yF g p ((t.push en).lower v tm)+(r+(D.length - (j+1)))<=100000 from DK.out);go_wp2
   go_roundw
   case rel =>
    refine⟨j+1,by omega,by go_num,_,rfl,?_,?_⟩
    ·rw[Fs.out,Gk.out]
     exact⟨_,_,_,P3.out,ze.out,iP.out⟩
    rw[Fs.out,HTS.out];exact HST.out
   case measure=>simp[intOf];omega
  have b4:decide (tm<tv)=false:=decide_eq_false c4;have Gk:=lh (show Plain.fg (Plain.visit g p N) g v via t dn=t from by
   unfold Plain.fg;rw[HX.out,if_neg Wc.out,SF.out,if_neg c2,if_neg (by rw[KK.out];exact c3),KK.out,Oj.out,if_neg c4])
  have HB4:=lh Gj;clear lp h0 afW Gj
  go_wp2_with fail
  have aD:ai [] w2 w2.drew:=(ai.refl [] w2).drew;refine au (ai [] w2) [0,1,2,3,4,5,6,7,8,9,10,11,12,13,14,15] (Way.line [0,1,2,3,4,5,6,7,8,9,10,11,12,13,14,15] .done) (by kernel_rfl) (by kernel_rfl) ?_;simp only[Way.line]
  repeat
   first
    | (refine ar rfl (by rfl) (by rfl) (fun _ _ _ h=>h) aD ?_;simp only[Qa,Z1,Z2,Z3,Z4,Z5,Z6])
    | (refine aq (v:=?_) rfl (by rfl) (by rfl) (fun _ _ _ h=>h) aD (fun w' aK=>?_) ?_;rotate_left;(focus (have fU:=aK.c a3;have gX:=aK.c cmx;have nP:=aK.c mv;clear aK;go_simp;try with_reducible rfl));simp only[Qa,Z1,Z2,Z3,Z4,Z5,Z6])
    | (refine ak rfl (by rfl) (by rfl) aD ?_;simp only[Qa,Z1,Z2,Z3,Z4,Z5,Z6])
  refine aB ?_;have PF:=lh (qg.out.fresh aD);clear aD a3 a4 a6 a7 cmx mv qg;generalize w2.drew=w3 at *;go_wp2
  go_roundw
  case rel =>
   refine⟨j+1,by omega,by go_num,_,rfl,?_,?_⟩
   ·rw[Fs.out,Gk.out]
    exact⟨_,_,_,PF.out,ala.out,HB4.out⟩
   rw[Fs.out,HTS.out];exact HST.out
  case measure=>simp[intOf];omega
theorem wS (k:FK) (g:Plain.Gr) (p:Plain.Pt) (hk:k.Ok) (hh:k.Has g p) (hp:Plain.aH g p):∀ N,X4 g p k N
 | 0=>fun s A v via r w hE hu _=>by
  have:0<Plain.BS p s:=List.length_pos_of_mem (List.mem_filter.2 ⟨hE.vV,decide_eq_true hE.vn⟩);omega
 | N+1=>Mz k g p hk hh hp N (wS k g p hk hh hp N)
end Go.Proofs.YtbkjljffnkdcjaaGreat
namespace Go.Proofs.YtbkjljffnkdcjaaGreat
open Go
section
variable {P : Program} {ops : Array Oper} {Q : Exit -> Act -> World -> Prop} {md : Region.Mode} {w0 : World} {fr : (Nat -> Value) -> Act} {z : Nat} {fin M : List Nat}
def Uk (v:Value) (w w':World):Prop:=∀ b,v.ownBlock=some b->w.heap.size<=b/\b<w'.heap.size
def lF (d M:List Nat) (aR:Nat->Value):Prop:=∀ i∈M,∀ j∈M,i∈d->j∈d->i≠j->∀ b,(aR i).ownBlock=some b->(aR j).ownBlock≠some b
def pQ (P:Program) (ops:Array Oper) (Q:Exit->Act->World->Prop) (w0:World) (fr:(Nat->Value)->Act) (z:Nat) (fin:List Nat) (M:List Nat) (L:List (Value->World->Prop)):Nat->List (Oper × List Nat)->Prop
 | _,[]=>∀ aR w,ai [] w0 w->gz L aR w fin->lF fin M aR->wpOp P ops Q z (fun a' w'=>Q .normal a' w') (fr aR) w
 | i,(o,d) :: r=>∃ p,(Calm p/\∀ aR w,ai [] w0 w->gz L aR w d->lF d M aR->wpOp P ops Q i (fun a' w'=>∃ v,a'=(fr aR).put o.dst v/\p v w'/\ai [] w w'/\(i∈M->Uk v w w')) (fr aR) w)/\pQ P ops Q w0 fr z fin M (L++[p]) (i+1) r
theorem zW:∀ (todo:List (Oper × List Nat)) (i:Nat) (L:List (Value->World->Prop)),L.length=i->pQ P ops Q w0 fr z fin M L i todo->(∀ k o d,todo[k]?=some (o,d)->∀ x∈d,x<i+k) ->
  ∃ L',(∀ j,j<i->L'.getD j (fun _ _=>True)=L.getD j (fun _ _=>True))/\L'.length=i+todo.length /\
   (∀ k o d,todo[k]?=some (o,d)->Calm (L'.getD (i+k) (fun _ _=>True))/\∀ aR w,ai [] w0 w->gz L' aR w d->lF d M aR->wpOp P ops Q (i+k) (fun a' w'=>∃ v,a'=(fr aR).put o.dst v/\(L'.getD (i+k) (fun _ _=>True)) v w'/\ai [] w w'/\(i+k∈M->Uk v w w')) (fr aR) w) /\
   (∀ aR w,ai [] w0 w->gz L' aR w fin->lF fin M aR->wpOp P ops Q z (fun a' w'=>Q .normal a' w') (fr aR) w)
 | [],i,L,hl,h,_=>⟨L,fun _ _=>rfl,by simp[hl],fun k o d hk=>by simp at hk,h⟩
 | (o,d) :: r,i,L,hl,⟨p,⟨h1,h2⟩,h3⟩,hd=>by
  obtain⟨L',k1,k2,k3,k4⟩:=zW r (i+1) (L++[p]) (by simp[hl]) h3 (fun k o' d' hk x hx=>by have:=hd (k+1) o' d' (by simpa using hk) x hx;omega);have hp:L'.getD i (fun _ _=>True)=p:=by
   rw[k1 i (by omega)];simp[Qf,hl]
  have hold:∀ j,j<i->L'.getD j (fun _ _=>True)=L.getD j (fun _ _=>True):=fun j hj=>by
   rw[k1 j (by omega)];simp[Qf,List.getElem?_append_left (by omega:j<L.length)]
  refine⟨L',hold,by rw[k2];simp;omega,fun k o' d' hk=>?_,k4⟩;cases k with
  | zero =>
   obtain⟨rfl,rfl⟩:o=o'/\d=d':=by simpa using hk
   rw[Nat.add_zero,hp];refine⟨h1,fun aR w hG hF hA=>h2 aR w hG ?_ hA⟩;rw[<-tY (L:=L') (L':=L) (fun x hx=>hold x (by have:=hd 0 o d rfl x hx;omega))];exact hF
  | succ k =>
   have:=k3 k o' d' (by simpa using hk);rw[show i+1+k=i+(k+1) by omega] at this;exact this
theorem CP {a0:Act} {deps:Nat->List Nat} {I:Nat->Value->World->Prop} (sF:∀ aR,fr aR=jL aR 0 ops.toList a0) (jE:apart ops.toList=true)
  (Uj:∀ j oj,ops[j]?=some oj->∀ e∈oj.after,Region.binds md e=true->e.on<j) (wH:∀ j oj,ops[j]?=some oj->∀ x∈deps j,∃ e∈oj.after,Region.binds md e=true/\e.on=x)
  (BR:∀ aG:Array Bool,aG.size=ops.size->(∀ j oj,ops[j]?=some oj->aG.getD j false=true->∀ e∈oj.after,Region.binds md e=true->aG.getD e.on false=true)->z∈Region.ready md ops aG->∀ j,j<ops.size->j≠z->aG.getD j false=true) (hM:∀ j∈M,j<ops.size/\j≠z) (hz:z<ops.size)
  (kU:∀ i o,ops[i]?=some o->i≠z->Calm (I i)/\∀ aR w,ai [] w0 w->(∀ x∈deps i,I x (aR x) w)->lF (deps i) M aR ->
   wpOp P ops Q i (fun a' w'=>∃ v,a'=(fr aR).put o.dst v/\I i v w'/\ai [] w w'/\(i∈M->Uk v w w')) (fr aR) w)
  (mV:∀ aR w,ai [] w0 w->(∀ j,j<ops.size->j≠z->I j (aR j) w)->(∀ d,lF d M aR)->wpOp P ops Q z (fun a' w'=>Q .normal a' w') (fr aR) w) :
  ∀ (fuel:Nat) (aG:Array Bool) (aR:Nat->Value) (w:World),aG.size=ops.size->(List.range ops.size).countP (fun j=>!aG.getD j false)<=fuel ->
   (∀ j oj,ops[j]?=some oj->aG.getD j false=true->∀ e∈oj.after,Region.binds md e=true->aG.getD e.on false=true) ->
   aG.getD z false=false->(∀ j,aG.getD j false=true->I j (aR j) w)->(∀ j∈M,aG.getD j false=true->∀ b,(aR j).ownBlock=some b->b<w.heap.size)->(∀ i∈M,∀ j∈M,i≠j->aG.getD i false=true->aG.getD j false=true->∀ b,(aR i).ownBlock=some b->(aR j).ownBlock≠some b)->ai [] w0 w->wpAny P md ops Q fuel aG (fr aR) w:=by
 have cU:∀ aG:Array Bool,aG.size=ops.size->Region.ready md ops aG=[]->∀ j,j<ops.size->aG.getD j false=true:=by
  intro aG hs Ld j
  induction j using Nat.strongRecOn with
  | _ j ih =>
   intro hj;apply Classical.byContradiction;intro hc;have:j∈Region.ready md ops aG:=by
    refine mem_ready.2 ⟨?_,ops[j],Qc hj,fun e he hb=>ih e.on (Uj j _ (Qc hj) e he hb) (by have:=Uj j _ (Qc hj) e he hb;omega)⟩;have hl:j<aG.size:=by omega
    simp[hl] at hc ⊢;exact hc
   rw[Ld] at this;cases this
 have Rf:∀ aG:Array Bool,aG.size=ops.size->(∀ j,j<ops.size->aG.getD j false=true)->Region.ready md ops aG=[]:=by
  intro aG hs ha;refine List.eq_nil_iff_forall_not_mem.2 fun j hj=>?_;obtain⟨h0,o,ho,-⟩:=mem_ready.1 hj;have aU:j<ops.size:=(Qb.1 ho).1;have h1:=ha j aU;have hl:j<aG.size:=by omega
  simp[hl] at h0 h1;rw[h0] at h1;cases h1
 intro fuel
 induction fuel with
 | zero =>
  intro aG aR w hs hc nv IQ h1 mh jS hG;exact absurd (by show (!aG.getD z false)=true;rw[IQ];rfl) (List.countP_eq_zero.1 (Nat.le_zero.1 hc) z (by simpa using hz))
 | succ fuel ih =>
  intro aG aR w hs hc nv IQ h1 mh jS hG;refine⟨fun Ld=>absurd (cU aG hs Ld z hz) (by rw[IQ];simp),fun i hi=>?_⟩;obtain⟨h0,o,ho,KL⟩:=mem_ready.1 hi;have aU:i<ops.size:=(Qb.1 ho).1;have hl:i<aG.size:=by omega
  have h0':aG.getD i false=false:=by simp[hl] at h0 ⊢;exact h0
  have bw:∀ j,(aG.setIfInBounds i true).getD j false=if j=i then true else aG.getD j false:=fun j=>by
   by_cases lp:j=i
   ·subst lp;simp[hl]
   rw[getD_set_ne false (Ne.symm lp),if_neg lp]
  by_cases hiz:i=z
  ·subst hiz
   have ha:∀ j,j<ops.size->(aG.setIfInBounds i true).getD j false=true:=fun j hj=>by
    rw[bw];by_cases q:j=i
    ·rw[if_pos q]
    rw[if_neg q];exact BR aG hs nv hi j hj q
   have Ld:=Rf (aG.setIfInBounds i true) (by simpa using hs) ha;refine wpOp_mono ?_ (mV aR w hG (fun j hj lp=>h1 j (BR aG hs nv hi j hj lp)) (fun _ i' uT j hj _ _ bh=>jS i' uT j hj bh (BR aG hs nv hi i' (hM i' uT).1 (hM i' uT).2) (BR aG hs nv hi j (hM j hj).1 (hM j hj).2)));intro a' w' hq;cases fuel with
   | zero=>exact⟨Ld,hq⟩
   | succ fuel=>exact⟨fun _=>hq,fun k hk=>by rw[Ld] at hk;cases hk⟩
  refine wpOp_mono ?_ ((kU i o ho hiz).2 aR w hG (fun x hx=>?_) (fun i' uT j hj hid hjd bh=>jS i' uT j hj bh (by obtain⟨e,he,hb,rfl⟩:=wH i o ho _ hid;exact KL _ he hb) (by obtain⟨e,he,hb,rfl⟩:=wH i o ho _ hjd;exact KL _ he hb)))
  ·rintro a' w' ⟨v,rfl,hv,hR,hN⟩
   have e:(fr aR).put o.dst v=fr (pS aR i v):=by
    rw[sF,sF];have:=AT aR v ops.toList 0 i o a0 jE (by simpa using ho);rw[<-this,Ql]
   rw[e];refine ih _ _ _ (by simpa using hs) ?_ (fun j oj hj MW e he hb=>?_) ?_ (fun j hj=>?_) (fun j hj MW b hb=>?_) (fun i' uT j hj bh ZE MW b hb q=>?_) (hG.t hR)
   ·have:=nC (fun j=>!aG.getD j false) (fun j=>!(aG.setIfInBounds i true).getD j false) i (by simp only[h0'];rfl) (by simp only[bw];simp) (fun k hk=>by simp only[bw,if_neg hk]) ops.size aU
    omega
   ·rw[bw] at MW ⊢
    by_cases uF:e.on=i
    ·rw[if_pos uF]
    rw[if_neg uF];by_cases lp:j=i
    ·subst lp
     rw[ho] at hj;cases hj;exact KL _ he hb
    rw[if_neg lp] at MW;exact nv j oj hj MW e he hb
   ·rw[bw,if_neg (Ne.symm hiz)];exact IQ
   ·by_cases lp:j=i
    ·subst lp
     rw[show pS aR j v j=v from if_pos rfl];exact hv
    rw[bw,if_neg lp] at hj;rw[show pS aR i v j=aR j from if_neg lp];have hjz:j≠z:=fun q=>by rw[q,IQ] at hj;cases hj
    have sH:j<aG.size:=by
     rcases Qp j aG.size with q | q
     ·exact q
     simp[Qg q] at hj
    obtain⟨oj,U8⟩:∃ oj,ops[j]?=some oj:=⟨_,Qc (by omega)⟩;exact (kU j oj U8 hjz).1 _ _ _ hR (h1 j hj)
   ·by_cases lp:j=i
    ·subst lp
     rw[show pS aR j v j=v from if_pos rfl] at hb;exact (hN hj b hb).2
    rw[bw,if_neg lp] at MW;rw[show pS aR i v j=aR j from if_neg lp] at hb;exact Nat.lt_of_lt_of_le (mh j hj MW b hb) hR.size
   rw[bw] at ZE MW;by_cases hii:i'=i
   ·subst hii
    rw[show pS aR i' v i'=v from if_pos rfl] at hb;rw[if_neg (Ne.symm bh)] at MW;rw[show pS aR i' v j=aR j from if_neg (Ne.symm bh)] at q;have h1:=(hN uT b hb).1;have h2:=mh j hj MW b q;omega
   rw[if_neg hii] at ZE;rw[show pS aR i v i'=aR i' from if_neg hii] at hb;by_cases lp:j=i
   ·subst lp
    rw[show pS aR j v j=v from if_pos rfl] at q;have h1:=(hN hj b q).1;have h2:=mh i' uT ZE b hb;omega
   rw[if_neg lp] at MW;rw[show pS aR i v j=aR j from if_neg lp] at q;exact jS i' uT j hj bh ZE MW b hb q
  obtain⟨e,he,hb,rfl⟩:=wH i o ho x hx;exact h1 _ (KL e he hb)
theorem uH {id:Nat} {a:Act} {w:World} (deps:List (List Nat)) (fin:List Nat) (M:List Nat) (hMM:(M.all fun j=>decide (j<ops.size - 1))=true) (hm:P.follows .mixedOrders=true)
  (hc:Jr .any ops deps fin=true) (hG:ai [] w0 w.drew)
  (h':∀ fr:(Nat->Value)->Act,(∀ aR,jL aR 0 ops.toList a=fr aR)->pQ P ops Q w0 fr (ops.size - 1) fin M [] 0 (ops.toList.dropLast.zip deps)):(Code.region id ops true).wp P Q a w:=by
 obtain⟨fr,sF⟩:∃ fr:(Nat->Value)->Act,∀ aR,jL aR 0 ops.toList a=fr aR:=⟨_,fun _=>rfl⟩;have h:=h' fr sF;unfold Jr at hc;simp only[Bool.and_eq_true,Bool.or_eq_true,decide_eq_true_eq,beq_iff_eq,Qn,List.mem_range,List.contains_eq_mem] at hc;obtain⟨⟨⟨⟨⟨jE,hlen⟩,Uj⟩,alh⟩,hz⟩,sK⟩:=hc;have Ij:0<ops.size:=by omega
 have ajA:∀ k o,ops[k]?=some o->k≠ops.size - 1->(ops.toList.dropLast.zip deps)[k]?=some (o,deps.getD k []):=fun k o ho hk=>by
  have Cg:k<ops.size:=(Qb.1 ho).1;rw[Qd];refine⟨?_,by simp[Qf,show k<deps.length by omega]⟩;rw[Qh,if_pos (by simp;omega)];simpa using ho
 have agA:∀ k o d,(ops.toList.dropLast.zip deps)[k]?=some (o,d)->ops[k]?=some o/\deps.getD k []=d/\k<ops.size - 1:=fun k o d hk=>by
  rw[Qd] at hk;have h1:=hk.1;rw[Qh] at h1;split at h1
  ·rename_i aU
   exact⟨by simpa using h1,by simp[Qf,hk.2],by simpa using aU⟩
  cases h1
 have FP:∀ j oj,ops[j]?=some oj->∀ e∈oj.after,Region.binds .any e=true->e.on<j:=fun j oj hj e he hb =>
  Uj j (Qb.1 hj).1 e.on (kN.2 ⟨oj,hj,e,he,hb,rfl⟩)
 have wH:∀ j oj,ops[j]?=some oj->∀ x∈(if j<ops.size - 1 then deps.getD j [] else []),∃ e∈oj.after,Region.binds .any e=true/\e.on=x:=fun j oj hj x hx=>by
  split at hx
  ·rename_i aU
   obtain⟨o,ho,q⟩:=kN.1 (alh j aU x hx);rw[hj] at ho;cases ho;exact q
  cases hx
 obtain⟨L,-,-,hO,hE⟩:=zW _ 0 [] rfl h (fun k o d hk x hx=>by
  obtain⟨h1,rfl,Cg⟩:=agA k o d hk;obtain⟨e,he,hb,rfl⟩:=wH k o h1 x (by rw[if_pos Cg];exact hx);have:=FP k o h1 e he hb;omega)
 refine wp_region_any hm ?_;have XK:=CP (P:=P) (Q:=Q) (md:=.any) (a0:=a) (w0:=w0) (deps:=fun j=>if j<ops.size - 1 then deps.getD j [] else []) (I:=fun j=>if j<ops.size - 1 then L.getD j (fun _ _=>True) else fun _ _=>True) (fr:=fr) (z:=ops.size - 1) (fun aR=>(sF aR).symm) jE FP wH
  (fun aG hs nv hzr j hj hjz=>by
   obtain⟨-,o,ho,KL⟩:=mem_ready.1 hzr;refine nQ nv ops.size _ (fun x hx=>?_) j ((hz j hj).resolve_left hjz);obtain⟨o',ho',e,he,hb,rfl⟩:=kN.1 hx;rw[ho] at ho';cases ho';exact KL e he hb) (fun j hj=>by have:=of_decide_eq_true (Qn.1 hMM j hj);exact⟨by omega,by omega⟩) (by omega)
  (fun i o ho hi=>by
   have JG:i<ops.size:=(Qb.1 ho).1;have hi3:i<ops.size - 1:=by omega
   have:=hO i o _ (ajA i o ho hi);rw[Ql] at this;simp only[if_pos hi3];refine⟨this.1,fun aR w hG hF hA=>this.2 aR w hG (xh fun x hx=>?_) hA⟩;obtain⟨e,he,hb,rfl⟩:=wH i o ho x (by rw[if_pos hi3];exact hx);have:=FP i o ho e he hb;have h2:=hF _ hx;rwa[if_pos (by omega)] at h2)
  (fun aR w hG h1 hA=>hE aR w hG (xh fun x hx=>by
   have Vp:=sK x hx;have:=h1 x (by omega) (by omega);rwa[if_pos Vp] at this) (hA _))
 have e0:a=fr (fun k=>match ops.toList[k]? with | some o=>held a o | none=>undef):=by
  rw[<-sF];refine (Ar _ a ops.toList 0 fun k o hk=>?_).symm;simp only[Ql,hk]
 have gM:∀ j,(Qi ops.size false).getD j false=false:=fun j=>by
  rcases Qp j (Qi ops.size false).size with q | q
  ·simp only[Array.size_replicate] at q
   simp[q]
  simp[Qg q]
 have:=XK ops.size (Qi ops.size false) (fun k=>match ops.toList[k]? with | some o=>held a o | none=>undef) w.drew (by simp) (Nat.le_trans (List.countP_le_length) (by simp))
  (fun j _ _ hj=>by rw[gM] at hj;cases hj) (gM _) (fun j hj=>by rw[gM] at hj;cases hj) (fun j _ hj=>by rw[gM] at hj;cases hj) (fun i _ j _ _ hj=>by rw[gM] at hj;cases hj) hG
 rw[<-e0] at this;exact this
theorem rU {i:Nat} {rest:List (Oper × List Nat)} {L:List (Value->World->Prop)} {o:Oper} {d:List Nat} (p:Value->World->Prop) (ho:ops[i]?=some o) (hi:M.contains i=false) (hp:Calm p)
  (h:∀ aR w,ai [] w0 w->gz L aR w d->lF d M aR->Region.wanted o (yielded ops (fr aR).tmps)=true /\
   ∀ K:Act->World->Prop,Shut (∀ v w',p v w'->ai [] w w'->K ((fr aR).put o.dst v) w')->o.wp P (fr aR) w K Q)
  (hn:pQ P ops Q w0 fr z fin M (L++[p]) (i+1) rest):pQ P ops Q w0 fr z fin M L i ((o,d) :: rest):=by
 refine⟨p,⟨hp,fun aR w hG hF hA=>?_⟩,hn⟩;obtain⟨h1,h2⟩:=h aR w hG hF hA;unfold wpOp;simp only[ho,h1,if_true];exact .inl (h2 _ (fun v w' a b=>⟨v,rfl,a,b,fun q=>absurd (Qj.2 q) (by rw[hi];decide)⟩))
theorem zR {i:Nat} {rest:List (Oper × List Nat)} {L:List (Value->World->Prop)} {o:Oper} {d:List Nat} (p:Value->World->Prop) (ho:ops[i]?=some o) (hp:Calm p)
  (h:∀ aR w,ai [] w0 w->gz L aR w d->lF d M aR->Region.wanted o (yielded ops (fr aR).tmps)=true /\
   ∀ K:Act->World->Prop,Shut (∀ v w',p v w'->ai [] w w'->Uk v w w'->K ((fr aR).put o.dst v) w')->o.wp P (fr aR) w K Q)
  (hn:pQ P ops Q w0 fr z fin M (L++[p]) (i+1) rest):pQ P ops Q w0 fr z fin M L i ((o,d) :: rest):=by
 refine⟨p,⟨hp,fun aR w hG hF hA=>?_⟩,hn⟩;obtain⟨h1,h2⟩:=h aR w hG hF hA;unfold wpOp;simp only[ho,h1,if_true];exact .inl (h2 _ (fun v w' a b c=>⟨v,rfl,a,b,fun _=>c⟩))
theorem ia {i:Nat} {rest:List (Oper × List Nat)} {L:List (Value->World->Prop)} {o:Oper} {d:List Nat} {c:Value} (ho:ops[i]?=some o) (hi:M.contains i=false)
  (h:∀ aR w,ai [] w0 w->gz L aR w d->lF d M aR->Region.wanted o (yielded ops (fr aR).tmps)=true/\(execOp (fr aR).eval o).run P w=.ok (.value c) w)
  (hn:pQ P ops Q w0 fr z fin M (L++[fun v _=>v=c]) (i+1) rest):pQ P ops Q w0 fr z fin M L i ((o,d) :: rest):=by
 refine⟨fun v _=>v=c,⟨fun _ _ _ _ q=>q,fun aR w hG hF hA=>?_⟩,hn⟩;obtain⟨h1,h2⟩:=h aR w hG hF hA;unfold wpOp;simp only[ho,h1,if_true,Oper.wp,h2,Oper.upon];exact .inl ⟨c,rfl,rfl,ai.refl _ _,fun q=>absurd (Qj.2 q) (by rw[hi];decide)⟩
theorem GV {i:Nat} {L:List (Value->World->Prop)} {o:Oper} (ho:ops[z]?=some o)
  (h:∀ aR w,ai [] w0 w->gz L aR w fin->lF fin M aR->Region.wanted o (yielded ops (fr aR).tmps)=true /\
   ∀ K:Act->World->Prop,Shut (∀ a' w',Q .normal a' w'->K a' w')->o.wp P (fr aR) w K Q):pQ P ops Q w0 fr z fin M L i []:=by
 intro aR w hG hF hA;obtain⟨h1,h2⟩:=h aR w hG hF hA;unfold wpOp;simp only[ho,h1,if_true];exact .inl (h2 _ (fun a' w' q=>q))
end
end Go.Proofs.YtbkjljffnkdcjaaGreat
