/- package sets: contract of Groups. Condition: an object with fewer than 2^32 eM. -/
import Derived.Test.YtoiflofhcmjpoaaGreatD9SetsB
import Derived.Test.YtoiflofhcmjpoaaGreatD9Rows2
import Derived.Deep.DeepCutAuto
import Derived.Deep.RegionLaw
open Go.Value renaming ownBlock→Qa,int→Qf
open List renaming getD→Qb,mem_append→Qc,replicate→Qe
open Or renaming inr→Qd
namespace Go.Proofs.YtoiflofhcmjpoaaGreat
open Go.RowKit Go.Maps
def tJ (w:World) (pb mb:Nat) (tv uv:Value) (s:St) (k:Nat) (ov:Value) (wr:World):Prop :=
 ∃ vs oD iX,bj wr w.heap.size ov vs (s.gr k)/\wr.ownsRow w.heap.size 3 1 (.slice (some ⟨w.heap.size,0,none⟩) s.all.length s.all.length) s.all.length (ints oD) /\
  (∀ h,h<k->s.hd h=h->oD.getD h 0=((s.cZ k).idxOf h:Nat))/\(∀ j,j<vs.length->(vs.getD j undef).ownBlock≠some w.heap.size)/\aM wr pb mb tv uv iX s/\ag uv.ownBlock.toList w wr
def DH (w:World) (pb mb:Nat) (tv uv:Value) (s:St) (k:Nat) (ov:Value) (wr:World):Prop :=
 ∃ go cap vs oD iX,ov=.slice (some ⟨go,0,none⟩) vs.length cap/\bj wr w.heap.size ov vs (s.wO k)/\wr.ownsRow w.heap.size 3 1 (.slice (some ⟨w.heap.size,0,none⟩) s.all.length s.all.length) s.all.length (ints oD) /\
  (∀ h,h<k+1->s.hd h=h->oD.getD h 0=((s.cZ (k+1)).idxOf h:Nat))/\(∀ j,j<vs.length->(vs.getD j undef).ownBlock≠some w.heap.size)/\aM wr pb mb tv uv iX s/\ag uv.ownBlock.toList w wr
theorem P' {w wr:World} {pb mb:Nat} {tv uv ov:Value} {s:St} {k:Nat} (iL:s.Ok) (aL:k<s.all.length) (Lo:s.hd k≠k) (h:tJ w pb mb tv uv s k ov wr):DH w pb mb tv uv s k ov wr:=by
 obtain⟨vs,oD,iX,gG,iJ,lk,bh,dU,dV⟩:=h;have hr:s.hd k<=k:=iL.le k (by rw[<-iL.len];exact aL);have hrr:s.hd (s.hd k)=s.hd k:=iL.own k (by rw[<-iL.len];exact aL);have sM:vs.length=(s.cZ k).length:=by rw[gG.len];simp[St.gr]
 have xI:=List.idxOf_lt_length_iff.2 (St.nE.2 ⟨by omega,hrr⟩:s.hd k∈s.cZ k);obtain⟨go,cap,rfl⟩:=cD gG.out (by omega);refine⟨go,cap,vs,oD,iX,rfl,?_,iJ,fun j hj e=>?_,bh,dU,dV⟩
 ·have:s.wO k=s.gr k:=if_neg Lo
  rw[this];exact gG
 have He:j<k:=by
  rcases Nat.lt_or_ge j k with q | q
  ·exact q
  have:j=k:=by omega
  subst this;exact absurd e Lo
 rw[lk j He e,St.xM He e]
theorem RX {w wr w3:World} {pb mb:Nat} {tv uv ov:Value} {s:St} {k g cap:Nat} {vs:List Value} {oD:List Int} {iX:List Nat} (hk:s.hd k=k) (aL:k<s.all.length)
  (gG:bj wr w.heap.size ov vs (s.gr k)) (iJ:wr.ownsRow w.heap.size 3 1 (.slice (some ⟨w.heap.size,0,none⟩) s.all.length s.all.length) s.all.length (ints oD))
  (lk:∀ h,h<k->s.hd h=h->oD.getD h 0=((s.cZ k).idxOf h:Nat)) (bh:∀ j,j<vs.length->(vs.getD j undef).ownBlock≠some w.heap.size) (dU:aM wr pb mb tv uv iX s) (dV:ag uv.ownBlock.toList w wr)
  (jj:∀ b∈aM.blocks pb mb tv uv,b<w.heap.size)
  (bH:w3.ownsRow w.heap.size 25 1 (.slice (some ⟨g,0,none⟩) (vs.length+1) cap) (vs.length+1) (vs++[.slice none 0 0]))
  (cT:ag ov.ownBlock.toList (wr.setCell ⟨w.heap.size,k,none⟩ (.int .i64 (vs.length:Int))) w3):DH w pb mb tv uv s k (.slice (some ⟨g,0,none⟩) (vs.length+1) cap) w3:=by
 have BK:=iJ.stored k (.int .i64 (vs.length:Int));have qz:∀ j∈ov.ownBlock.toList,w.heap.size<=j/\j≠w.heap.size:=by
  intro j hj;have e:ov.ownBlock=some j:=by simpa using hj
  refine⟨(gG.out.lt j e).1,fun q=>?_⟩;rcases iH gG.out iJ (by decide) with t | t
  ·rw[t] at e;cases e
  exact t (by rw[e,q];rfl)
 have bA:ag [w.heap.size] wr (wr.setCell ⟨w.heap.size,k,none⟩ (.int .i64 (vs.length:Int))):=(ag.refl _ _).setCell (by simp) _;have xk:=gG.aD bA (fun b hb e=>by simp at e;exact (qz b (by simpa using hb)).2 e) (fun j b hj hb e=>by simp at e;subst e;exact bh j hj hb);have sM:vs.length=(s.cZ k).length:=by rw[gG.len];simp[St.gr]
 have CR:oD.length=s.all.length:=by have:=iJ.1;simpa[ints] using this
 refine⟨g,cap,vs++[.slice none 0 0],oD.set k (vs.length:Int),iX,by simp,?_,?_,?_,?_,?_,?_⟩
 ·have:s.wO k=s.gr k++[[]]:=if_pos hk
  rw[this];exact xk.push bH cT
 ·refine aY ?_ cT (fun b hb e=>?_)
  ·have e1:ints (oD.set k (vs.length:Int))=(ints oD).set k (.int .i64 (vs.length:Int)):=by simp[ints,List.map_set]
   rw[e1];exact BK.1
  have:=qz b e;simp[Qa] at hb;omega
 ·intro h hh e
  by_cases q:h=k
  ·subst q
   rw[St.Sn e,<-sM];simp[Qb,show h<oD.length by omega]
  rw[St.xM (by omega) e,<-lk h (by omega) e];simp[Qb,List.getElem?_set_ne (Ne.symm q)]
 ·intro j hj
  simp at hj;by_cases q:j<vs.length
  ·have:(vs++[Value.slice none 0 0]).getD j undef=vs.getD j undef:=by simp only[Qb];rw[List.getElem?_append_left q]
   rw[this];exact bh j q
  have:j=vs.length:=by omega
  subst this;simp[Qa]
 ·exact (dU.aD bA (fun b hb e=>by have:=jj b hb;simp at e;omega)).aD cT (fun b hb e=>by have:=jj b hb;have:=(qz b e).1;omega)
 exact (dV.trans bA (fun j hj=>Qd (by simp at hj;omega))).trans cT (fun j hj=>Qd (qz j hj).1)
theorem JP {w w2 w5:World} {pb mb:Nat} {tv uv:Value} {s:St} {k go cap g5 wU n l:Nat} {vs:List Value} {oD:List Int} {iX:List Nat} {v:Value} {x:Int} {q:Nat} {ll:List Int} (iL:s.Ok) (aL:k<s.all.length)
  (gG:bj w2 w.heap.size (.slice (some ⟨go,0,none⟩) n cap) vs (s.wO k)) (hn:n=vs.length) (iJ:w2.ownsRow w.heap.size 3 1 (.slice (some ⟨w.heap.size,0,none⟩) s.all.length s.all.length) s.all.length (ints oD))
  (lk:∀ h,h<k+1->s.hd h=h->oD.getD h 0=((s.cZ (k+1)).idxOf h:Nat)) (bh:∀ j,j<vs.length->(vs.getD j undef).ownBlock≠some w.heap.size) (dU:aM w2 pb mb tv uv iX s) (dV:ag uv.ownBlock.toList w w2)
  (jj:∀ b∈aM.blocks pb mb tv uv,b<w.heap.size) (hq:s.gI k=q) (hv:vs.getD q undef=v) (GD:(s.wO k).getD q []=ll) (hl:l=ll.length) (hx:s.all.getD k 0=x)
  (ho:w5.ownsRow w.heap.size 3 1 (.slice (some ⟨g5,0,none⟩) (l+1) wU) (l+1) (ints ll++[.int .i64 x])) (hc:ag v.ownBlock.toList w2 w5) (Tz:v.ownBlock=some g5\/w2.heap.size<=g5) :
  tJ w pb mb tv uv s (k+1) (.slice (some ⟨go,0,none⟩) n cap) (w5.setCell ⟨go,q,none⟩ (.slice (some ⟨g5,0,none⟩) (l+1) wU)):=by
 subst hl GD hv hx;have Zo:k<s.dx.length:=by rw[<-iL.len];exact aL
 have yP:=St.Ap iL Zo;rw[<-s.tN,<-gG.len,hq] at yP;have TU:∀ j∈(vs.getD q undef).ownBlock.toList,w.heap.size<=j/\j≠w.heap.size:=by
  intro j hj;have e:(vs.getD q undef).ownBlock=some j:=by simpa using hj
  exact⟨((gG.rows q yP).lt j e).1,fun t=>bh q yP (by rw[e,t])⟩
 have hgo:w.heap.size<=go/\go≠w.heap.size:=by
  refine⟨(gG.out.lt go rfl).1,fun t=>?_⟩;rcases iH gG.out iJ (by decide) with r | r
  ·simp[Qa] at r
  exact r (by simp[Qa,t])
 have ja:ag [go] w5 (w5.setCell ⟨go,q,none⟩ (.slice (some ⟨g5,0,none⟩) (((s.wO k).getD q []).length+1) wU)):=(ag.refl _ _).setCell (by simp) _;refine⟨vs.set q (.slice (some ⟨g5,0,none⟩) (((s.wO k).getD q []).length+1) wU),oD,iX,?_,?_,lk,?_,?_,?_⟩
 ·rw[St.Rq iL Zo,hq]
  exact gG.put hn yP ho hc Tz
 ·exact aY (aY iJ hc (fun b hb e=>by have:=TU b e;simp[Qa] at hb;omega)) ja (fun b hb e=>by simp[Qa] at hb e;omega)
 ·intro j hj
  rw[List.length_set] at hj;rw[nq _ _ _ _ yP];by_cases e:j=q
  ·rw[if_pos e]
   simp only[Qa,ne_eq,Option.some.injEq];rcases Tz with r | r
   ·exact (TU g5 (by rw[r];simp)).2
   have:=(iJ.lt w.heap.size rfl).2;omega
  rw[if_neg e];exact bh j hj
 ·exact (dU.aD hc (fun b hb e=>by have:=jj b hb;have:=(TU b e).1;omega)).aD ja (fun b hb e=>by have:=jj b hb;simp at e;omega)
 exact (dV.trans hc (fun j hj=>Qd (TU j hj).1)).trans ja (fun j hj=>Qd (by simp at hj;omega))
set_option maxHeartbeats 800000 in
theorem Bi (pb:Nat) (own:List Nat) (s:St) (w:World) (hn:s.all.length<4294967296) (h:cw w pb own s) :
  Calls Tryz.prog 177 #[.pointer (some ⟨pb,0,none⟩)] w fun e w'=>∃ ov vs,e=.returned ov/\bj w' w.heap.size ov vs s.groups/\cw w' pb own s/\ag own w w':=by
 have iL:=h.ok;obtain⟨mb,tv,uv,up,dU,rfl⟩:=h;obtain⟨ao,xh,rfl⟩:=bk dU.eM;have c1:=dU.c1;have HA:=lh dU;have SH:Hid (∀ j∈uv.ownBlock.toList,j<w.heap.size):=fun j hj=>(dU.CV.lt j (by simpa using hj)).2;have HBL:Hid (∀ b∈aM.blocks pb mb (.slice ao s.all.length xh) uv,b<w.heap.size):=by
  intro b hb;simp only[aM.blocks,Qc,List.mem_cons,List.mem_nil_iff,or_false] at hb;rcases hb with ((q | q) | q) | q
  ·subst q;exact lt_of_block dU.cells
  ·subst q;exact dU.map.lt
  ·exact (dU.eM.lt b (by simpa using q)).2
  exact SH b q
 clear dU
 go_enter Tryz.func177,Tryz.ntmps177
 go_wp2_with (at_make;refine Hq bW rfl _ _ rfl (B:=w.heap.size) (n:=s.all.length) rfl rfl (Nat.le_refl _) (by omega) ?_;intro w1 Cy cY;have UO:=HA.out.aD cY (by simp);clear c1;have c1:=UO.c1;have HA1:=lh UO;clear UO)
 go_loopw [3,21] (fun ov c wr=>∃ k:Nat,k<=s.all.length/\c=.int .i64 k/\tJ w pb mb (.slice ao s.all.length xh) uv s k ov wr) (fun _ c _=>s.all.length - (intOf c).toNat)
 case atStart =>
  refine⟨0,Nat.zero_le _,rfl,[],Qe s.all.length 0,up,bj.nil _ _,?_,by intro h hh;omega,by simp,HA1.out,cY.mono (by simp)⟩;rw[Nat.mul_one] at Cy;have e1:(madeCells (Qf .i64 0).cells s.all.length).toList=ints (Qe s.all.length 0):=by
   show (madeCells #[Qf .i64 0] s.all.length).toList=_;rw[toList_madeCells_one];simp[ints]
  rw[e1] at Cy;exact Cy
 case round =>
  obtain⟨k,hk,rfl,hrel⟩:=hrel;by_cases aL:k<s.all.length
  ·obtain⟨vs,oD,iX,gG,iJ,lk,bh,Cf,Lw⟩:=hrel
   obtain⟨gt,eP,e⟩:=cD Cf.eM (by omega);obtain⟨rfl,rfl⟩:ao=some ⟨gt,0,none⟩/\xh=eP:=by simpa using e
   have ck:=Cf.aae rfl k aL;have c1r:=Cf.c1
   go_wp2_with fail
   refine (Pg pb mb _ uv iX s k _ aL Cf).mono ?_;rintro e w2 ⟨rfl,up2,Bl,qk⟩;have xk:=gG.below qk SH.out;have T1:=aY iJ qk (fun b hb e=>by simp[Qa] at hb;have:=SH.out b e;omega);have Uw:=Lw.trans qk (fun j hj=>Or.inl hj);have hrel:tJ w pb mb (.slice (some ⟨gt,0,none⟩) s.all.length xh) uv s k _ w2:=⟨vs,oD,up2,xk,T1,lk,bh,Bl,Uw⟩;have HR:=lh hrel;have hr:s.hd k<=k:=iL.le k (by rw[<-iL.len];exact aL);have hrr:s.hd (s.hd k)=s.hd k:=iL.own k (by rw[<-iL.len];exact aL);clear gG iJ Cf Lw qk c1r ck c1 hrel xk T1 lk bh Bl Uw
   go_upto_if 31 with fail
   go_cut [3] (fun ov wc=>DH w pb mb (.slice (some ⟨gt,0,none⟩) s.all.length xh) uv s k ov wc)
   case first =>
    by_cases Lo:s.hd k=k
    ·obtain⟨vs,oD,iX,gG,iJ,lk,bh,dU,dV⟩:=HR.out
     obtain⟨Df,qg,rfl⟩:=bk gG.out;have sM:vs.length=(s.cZ k).length:=by rw[gG.len];simp[St.gr]
     have hhl:=s.Mo k;have zl:vs.length<4294967296:=by omega
     have CR:oD.length=s.all.length:=by have:=iJ.1;simpa[ints] using this
     have ek:(ints oD)[k]?=some (.int .i64 (oD.getD k 0)):=by simp[ints,Qb,show k<oD.length by omega]
     have ck:=iJ.cellAt k (by omega);rw[ek] at ck;have fk:=iJ.frozenAt k;have BK:=gG.aD ((ag.refl [w.heap.size] w2).setCell (p:=⟨w.heap.size,k,none⟩) (by simp) (.int .i64 (vs.length:Int))) (fun b hb e=>by
      simp at e;subst e;rcases iH gG.out iJ (by decide) with t | t
      ·rw[t] at hb;cases hb
      exact t (by rw[hb];rfl)) (fun j b hj hb e=>by simp at e;subst e;exact bh j hj hb)
     have HO:=lh BK.out;have dj:w.heap.size<=(w2.setCell ⟨w.heap.size,k,none⟩ (.int .i64 (vs.length:Int))).heap.size:=by simp[World.setCell];exact dV.size
     have pj:=lh dj;have lQ:=lh gG;have aiR:=lh iJ;have HAT:=lh dU;have DE:=lh dV;have aga:=lh lk;have jg:=lh bh;have HK:=lh Lo;have ahZ:(((s.hd k:Nat):Int)==((k:Nat):Int))=true:=by rw[Lo];simp
     clear gG iJ dU dV lk bh BK dj sM hhl CR ek Lo
     go_wp2_with (at_builtin;refine oK ji rfl (.tmp 37) (.tmp 38) rfl rfl rfl (by simp) HO.out pj.out rfl (pC _ _ _) (by omega) ?_;intro g3 akl w3 ho3 cT S1)
     go_meet
     case rel=>exact RX HK.out aL lQ.out aiR.out aga.out jg.out HAT.out DE.out HBL.out ho3 cT
    have ahZ:(((s.hd k:Nat):Int)==((k:Nat):Int))=false:=by rw[beq_eq_false_iff_ne];omega
    go_wp2
    go_meet
    case rel=>exact P' iL aL Lo HR.out
   case rest =>
    obtain⟨go,cap,vs,oD,iX,rfl,gG,iJ,lk,bh,dU,dV⟩:=hcut;have Zo:k<s.dx.length:=by rw[<-iL.len];exact aL
    have yP:=St.Ap iL Zo;rw[<-s.tN,<-gG.len] at yP;have CR:oD.length=s.all.length:=by have:=iJ.1;simpa[ints] using this
    have a1:=iJ.cellAt (s.hd k) (by omega);have ea:(ints oD)[s.hd k]?=some (.int .i64 ((s.gI k:Nat):Int)):=by
     have e1:=lk (s.hd k) (by omega) hrr;rw[show (s.cZ (k+1)).idxOf (s.hd k)=s.gI k from rfl] at e1;rw[<-e1];simp[ints,Qb,show s.hd k<oD.length by omega]
    rw[ea] at a1;have a2:=gG.out.cellAt (s.gI k) (by omega);have a3:=gG.out.frozenAt (s.gI k);have aJ:=gG.rows (s.gI k) (by omega);have ev:vs[s.gI k]?=some (vs.getD (s.gI k) undef):=by simp[Qb,yP]
    rw[ev] at a2;have GD:((s.wO k).getD (s.gI k) []).length<4294967296:=by
     have:=s.RZ k (s.gI k);omega
    have Xe:Hid (w.heap.size ∉ (vs.getD (s.gI k) undef).ownBlock.toList):=by
     intro e;exact bh (s.gI k) yP (by simpa using e)
    have HGO:Hid (go ∉ (vs.getD (s.gI k) undef).ownBlock.toList):=by
     intro e;rcases iH aJ gG.out (by decide) with t | t
     ·rw[t] at e;cases e
     exact t (by simpa[Qa] using e)
    have Hx:Hid (∀ g5 wU w5,w5.ownsRow w.heap.size 3 1 (.slice (some ⟨g5,0,none⟩) (((s.wO k).getD (s.gI k) []).length+1) wU) (((s.wO k).getD (s.gI k) []).length+1) (ints ((s.wO k).getD (s.gI k) [])++[.int .i64 s.all[k]])->ag (vs.getD (s.gI k) undef).ownBlock.toList wc w5->((vs.getD (s.gI k) undef).ownBlock=some g5\/wc.heap.size<=g5) ->
      tJ w pb mb (.slice (some ⟨gt,0,none⟩) s.all.length xh) uv s (k+1) (.slice (some ⟨go,0,none⟩) vs.length cap) (w5.setCell ⟨go,s.gI k,none⟩ (.slice (some ⟨g5,0,none⟩) (((s.wO k).getD (s.gI k) []).length+1) wU))) :=
     fun g5 wU w5 ho hc hl=>JP iL aL gG rfl iJ lk bh dU dV HBL.out rfl rfl rfl rfl (by simp[Qb,aL]) ho hc hl
    have HB:Hid (w.heap.size<=wc.heap.size):=dV.size;have bt:=lh aJ;clear gG iJ lk bh dU dV aJ ea ev CR Zo;generalize hv:vs.getD (s.gI k) undef=v at *;generalize (s.wO k).getD (s.gI k) []=l at *;generalize s.gI k=q at *;generalize s.hd k=r at *;obtain⟨av,cv,rfl⟩:=bk bt.out;clear hv;have i1:(0:Int)<=(r:Int):=by omega
    have i2:(r:Int)<(s.all.length:Int):=by omega
    have i3:(0:Int)<=(q:Int):=by omega
    have i4:(q:Int)<(vs.length:Int):=by omega
    have a1n:=fun o=>bP a1 o;have a2n:=fun o=>bP a2 o;go_wp2
    go_region_law ((refine N4 bW rfl _ _ (by rfl) (by rfl) (by rfl) (by simp) bt.out HB.out rfl (Lv _) (by omega) (by first | exact Or.inl rfl | exact Qd rfl) ?_;intro g5 wU w5 Gm eO Tz;have b1:=eO.cell a2 HGO.out;have b2:=eO.frozen a2 a3 HGO.out;have b3:=eO.cell a1 Xe.out))
    all_goals
     have HG:=lh (Hx.out g5 wU w5 Gm eO Tz);clear Gm eO Tz b1 b2 b3 a1 a2 a3 a1n a2n;go_wp2
     go_roundw
     case rel=>exact⟨k+1,by omega,by go_num,HG.out⟩
     case measure=>simp[intOf];omega
  have e:k=s.all.length:=by omega
  subst e;obtain⟨vs,oD,iX,gG,iJ,lk,bh,Cf,Lw⟩:=hrel;have HF:Hid (bj wr w.heap.size u3 vs s.groups):=gG;have HT:Hid (cw wr pb (aM.blocks pb mb (.slice ao s.all.length xh) uv) s/\ag (aM.blocks pb mb (.slice ao s.all.length xh) uv) w wr):=⟨⟨mb,_,uv,iX,Cf,rfl⟩,Lw.mono (fun j hj=>Or.inl (by simp only[aM.blocks,Qc];exact Qd hj))⟩;clear gG iJ lk bh Cf Lw hk aL;go_wp2;go_ret;exact⟨_,vs,rfl,HF.out,HT.out⟩
end Go.Proofs.YtoiflofhcmjpoaaGreat
