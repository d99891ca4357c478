/- package sets: contract of Groups. Condition: an object with fewer than 2^32 eD. -/
import Derived.Test.YtbkjljffnkdcjaaGreatD9SetsB
import Derived.Test.YtbkjljffnkdcjaaGreatD9Rows2
import Derived.Deep.DeepCutAuto
import Derived.Deep.RegionLaw
open Go.Value renaming ownBlock→Qa,int→Qf
open List renaming getD→Qb,mem_append→Qc,replicate→Qe
open Or renaming inr→Qd
namespace Go.Proofs.YtbkjljffnkdcjaaGreat
open Go.RowKit Go.Maps
def xY (w:World) (pb mb:Nat) (tv uv:Value) (s:St) (k:Nat) (ov:Value) (wr:World):Prop :=
 ∃ vs qi jX,bW wr w.heap.size ov vs (s.gr k)/\wr.ownsRow w.heap.size 3 1 (.slice (some ⟨w.heap.size,0,none⟩) s.all.length s.all.length) s.all.length (ints qi) /\
  (∀ h,h<k->s.hd h=h->qi.getD h 0=((s.cY k).idxOf h:Nat))/\(∀ j,j<vs.length->(vs.getD j undef).ownBlock≠some w.heap.size)/\aW wr pb mb tv uv jX s/\ai uv.ownBlock.toList w wr
def Gu (w:World) (pb mb:Nat) (tv uv:Value) (s:St) (k:Nat) (ov:Value) (wr:World):Prop :=
 ∃ go cap vs qi jX,ov=.slice (some ⟨go,0,none⟩) vs.length cap/\bW wr w.heap.size ov vs (s.zz k)/\wr.ownsRow w.heap.size 3 1 (.slice (some ⟨w.heap.size,0,none⟩) s.all.length s.all.length) s.all.length (ints qi) /\
  (∀ h,h<k+1->s.hd h=h->qi.getD h 0=((s.cY (k+1)).idxOf h:Nat))/\(∀ j,j<vs.length->(vs.getD j undef).ownBlock≠some w.heap.size)/\aW wr pb mb tv uv jX s/\ai uv.ownBlock.toList w wr
theorem Ta {w wr:World} {pb mb:Nat} {tv uv ov:Value} {s:St} {k:Nat} (jP:s.Ok) (aU:k<s.all.length) (Rx:s.hd k≠k) (h:xY w pb mb tv uv s k ov wr):Gu w pb mb tv uv s k ov wr:=by
 obtain⟨vs,qi,jX,kC,jK,mR,bh,dN,dI⟩:=h;have hr:s.hd k<=k:=jP.le k (by rw[<-jP.len];exact aU);have hrr:s.hd (s.hd k)=s.hd k:=jP.own k (by rw[<-jP.len];exact aU);have EF:vs.length=(s.cY k).length:=by rw[kC.len];simp[St.gr]
 have zb:=List.idxOf_lt_length_iff.2 (St.oQ.2 ⟨by omega,hrr⟩:s.hd k∈s.cY k);obtain⟨go,cap,rfl⟩:=cN kC.out (by omega);refine⟨go,cap,vs,qi,jX,rfl,?_,jK,fun j hj e=>?_,bh,dN,dI⟩
 ·have:s.zz k=s.gr k:=if_neg Rx
  rw[this];exact kC
 have Jk:j<k:=by
  rcases Nat.lt_or_ge j k with q | q
  ·exact q
  have:j=k:=by omega
  subst this;exact absurd e Rx
 rw[mR j Jk e,St.z8 Jk e]
theorem Un {w wr w3:World} {pb mb:Nat} {tv uv ov:Value} {s:St} {k g cap:Nat} {vs:List Value} {qi:List Int} {jX:List Nat} (hk:s.hd k=k) (aU:k<s.all.length)
  (kC:bW wr w.heap.size ov vs (s.gr k)) (jK:wr.ownsRow w.heap.size 3 1 (.slice (some ⟨w.heap.size,0,none⟩) s.all.length s.all.length) s.all.length (ints qi))
  (mR:∀ h,h<k->s.hd h=h->qi.getD h 0=((s.cY k).idxOf h:Nat)) (bh:∀ j,j<vs.length->(vs.getD j undef).ownBlock≠some w.heap.size) (dN:aW wr pb mb tv uv jX s) (dI:ai uv.ownBlock.toList w wr)
  (fT:∀ b∈aW.blocks pb mb tv uv,b<w.heap.size)
  (bL:w3.ownsRow w.heap.size 25 1 (.slice (some ⟨g,0,none⟩) (vs.length+1) cap) (vs.length+1) (vs++[.slice none 0 0]))
  (dB:ai ov.ownBlock.toList (wr.setCell ⟨w.heap.size,k,none⟩ (.int .i64 (vs.length:Int))) w3):Gu w pb mb tv uv s k (.slice (some ⟨g,0,none⟩) (vs.length+1) cap) w3:=by
 have uP:=jK.stored k (.int .i64 (vs.length:Int));have Bc:∀ j∈ov.ownBlock.toList,w.heap.size<=j/\j≠w.heap.size:=by
  intro j hj;have e:ov.ownBlock=some j:=by simpa using hj
  refine⟨(kC.out.lt j e).1,fun q=>?_⟩;rcases jJ kC.out jK (by decide) with t | t
  ·rw[t] at e;cases e
  exact t (by rw[e,q];rfl)
 have bG:ai [w.heap.size] wr (wr.setCell ⟨w.heap.size,k,none⟩ (.int .i64 (vs.length:Int))):=(ai.refl _ _).setCell (by simp) _;have Ut:=kC.aM bG (fun b hb e=>by simp at e;exact (Bc b (by simpa using hb)).2 e) (fun j b hj hb e=>by simp at e;subst e;exact bh j hj hb);have EF:vs.length=(s.cY k).length:=by rw[kC.len];simp[St.gr]
 have yJ:qi.length=s.all.length:=by have:=jK.1;simpa[ints] using this
 refine⟨g,cap,vs++[.slice none 0 0],qi.set k (vs.length:Int),jX,by simp,?_,?_,?_,?_,?_,?_⟩
 ·have:s.zz k=s.gr k++[[]]:=if_pos hk
  rw[this];exact Ut.push bL dB
 ·refine bE ?_ dB (fun b hb e=>?_)
  ·have e1:ints (qi.set k (vs.length:Int))=(ints qi).set k (.int .i64 (vs.length:Int)):=by simp[ints,List.map_set]
   rw[e1];exact uP.1
  have:=Bc b e;simp[Qa] at hb;omega
 ·intro h hh e
  by_cases q:h=k
  ·subst q
   rw[St.Vj e,<-EF];simp[Qb,show h<qi.length by omega]
  rw[St.z8 (by omega) e,<-mR h (by omega) e];simp[Qb,List.getElem?_set_ne (Ne.symm q)]
 ·intro j hj
  simp at hj;by_cases q:j<vs.length
  ·have:(vs++[Value.slice none 0 0]).getD j undef=vs.getD j undef:=by simp only[Qb];rw[List.getElem?_append_left q]
   rw[this];exact bh j q
  have:j=vs.length:=by omega
  subst this;simp[Qa]
 ·exact (dN.aM bG (fun b hb e=>by have:=fT b hb;simp at e;omega)).aM dB (fun b hb e=>by have:=fT b hb;have:=(Bc b e).1;omega)
 exact (dI.trans bG (fun j hj=>Qd (by simp at hj;omega))).trans dB (fun j hj=>Qd (Bc j hj).1)
theorem Me {w w2 w5:World} {pb mb:Nat} {tv uv:Value} {s:St} {k go cap g5 zu n l:Nat} {vs:List Value} {qi:List Int} {jX:List Nat} {v:Value} {x:Int} {q:Nat} {ll:List Int} (jP:s.Ok) (aU:k<s.all.length)
  (kC:bW w2 w.heap.size (.slice (some ⟨go,0,none⟩) n cap) vs (s.zz k)) (hn:n=vs.length) (jK:w2.ownsRow w.heap.size 3 1 (.slice (some ⟨w.heap.size,0,none⟩) s.all.length s.all.length) s.all.length (ints qi))
  (mR:∀ h,h<k+1->s.hd h=h->qi.getD h 0=((s.cY (k+1)).idxOf h:Nat)) (bh:∀ j,j<vs.length->(vs.getD j undef).ownBlock≠some w.heap.size) (dN:aW w2 pb mb tv uv jX s) (dI:ai uv.ownBlock.toList w w2)
  (fT:∀ b∈aW.blocks pb mb tv uv,b<w.heap.size) (hq:s.iE k=q) (hv:vs.getD q undef=v) (Se:(s.zz k).getD q []=ll) (hl:l=ll.length) (hx:s.all.getD k 0=x)
  (ho:w5.ownsRow w.heap.size 3 1 (.slice (some ⟨g5,0,none⟩) (l+1) zu) (l+1) (ints ll++[.int .i64 x])) (hc:ai v.ownBlock.toList w2 w5) (V4:v.ownBlock=some g5\/w2.heap.size<=g5) :
  xY w pb mb tv uv s (k+1) (.slice (some ⟨go,0,none⟩) n cap) (w5.setCell ⟨go,q,none⟩ (.slice (some ⟨g5,0,none⟩) (l+1) zu)):=by
 subst hl Se hv hx;have hkg:k<s.dp.length:=by rw[<-jP.len];exact aU
 have Cq:=St.BM jP hkg;rw[<-s.xz,<-kC.len,hq] at Cq;have VL:∀ j∈(vs.getD q undef).ownBlock.toList,w.heap.size<=j/\j≠w.heap.size:=by
  intro j hj;have e:(vs.getD q undef).ownBlock=some j:=by simpa using hj
  exact⟨((kC.rows q Cq).lt j e).1,fun t=>bh q Cq (by rw[e,t])⟩
 have hgo:w.heap.size<=go/\go≠w.heap.size:=by
  refine⟨(kC.out.lt go rfl).1,fun t=>?_⟩;rcases jJ kC.out jK (by decide) with r | r
  ·simp[Qa] at r
  exact r (by simp[Qa,t])
 have jQ:ai [go] w5 (w5.setCell ⟨go,q,none⟩ (.slice (some ⟨g5,0,none⟩) (((s.zz k).getD q []).length+1) zu)):=(ai.refl _ _).setCell (by simp) _;refine⟨vs.set q (.slice (some ⟨g5,0,none⟩) (((s.zz k).getD q []).length+1) zu),qi,jX,?_,?_,mR,?_,?_,?_⟩
 ·rw[St.T7 jP hkg,hq]
  exact kC.put hn Cq ho hc V4
 ·exact bE (bE jK hc (fun b hb e=>by have:=VL b e;simp[Qa] at hb;omega)) jQ (fun b hb e=>by simp[Qa] at hb e;omega)
 ·intro j hj
  rw[List.length_set] at hj;rw[oN _ _ _ _ Cq];by_cases e:j=q
  ·rw[if_pos e]
   simp only[Qa,ne_eq,Option.some.injEq];rcases V4 with r | r
   ·exact (VL g5 (by rw[r];simp)).2
   have:=(jK.lt w.heap.size rfl).2;omega
  rw[if_neg e];exact bh j hj
 ·exact (dN.aM hc (fun b hb e=>by have:=fT b hb;have:=(VL b e).1;omega)).aM jQ (fun b hb e=>by have:=fT b hb;simp at e;omega)
 exact (dI.trans hc (fun j hj=>Qd (VL j hj).1)).trans jQ (fun j hj=>Qd (by simp at hj;omega))
set_option maxHeartbeats 800000 in
theorem DT (pb:Nat) (own:List Nat) (s:St) (w:World) (hn:s.all.length<4294967296) (h:cF w pb own s) :
  Calls Tryz.prog 164 #[.pointer (some ⟨pb,0,none⟩)] w fun e w'=>∃ ov vs,e=.returned ov/\bW w' w.heap.size ov vs s.groups/\cF w' pb own s/\ai own w w':=by
 have jP:=h.ok;obtain⟨mb,tv,uv,up,dN,rfl⟩:=h;obtain⟨ao,zg,rfl⟩:=cM dN.eD;have c1:=dN.c1;have HA:=lh dN;have HUB:Hid (∀ j∈uv.ownBlock.toList,j<w.heap.size):=fun j hj=>(dN.E6.lt j (by simpa using hj)).2;have HBL:Hid (∀ b∈aW.blocks pb mb (.slice ao s.all.length zg) uv,b<w.heap.size):=by
  intro b hb;simp only[aW.blocks,Qc,List.mem_cons,List.mem_nil_iff,or_false] at hb;rcases hb with ((q | q) | q) | q
  ·subst q;exact lt_of_block dN.cells
  ·subst q;exact dN.map.lt
  ·exact (dN.eD.lt b (by simpa using q)).2
  exact HUB b q
 clear dN
 go_enter Tryz.func164,Tryz.ntmps164
 go_wp2_with (at_make;refine Jv cJ rfl _ _ rfl (B:=w.heap.size) (n:=s.all.length) rfl rfl (Nat.le_refl _) (by omega) ?_;intro w1 MX cG;have aaf:=HA.out.aM cG (by simp);clear c1;have c1:=aaf.c1;have HA1:=lh aaf;clear aaf)
 go_loopw [3,21] (fun ov c wr=>∃ k:Nat,k<=s.all.length/\c=.int .i64 k/\xY w pb mb (.slice ao s.all.length zg) uv s k ov wr) (fun _ c _=>s.all.length - (intOf c).toNat)
 case atStart =>
  refine⟨0,Nat.zero_le _,rfl,[],Qe s.all.length 0,up,bW.nil _ _,?_,by intro h hh;omega,by simp,HA1.out,cG.mono (by simp)⟩;rw[Nat.mul_one] at MX;have e1:(madeCells (Qf .i64 0).cells s.all.length).toList=ints (Qe s.all.length 0):=by
   show (madeCells #[Qf .i64 0] s.all.length).toList=_;rw[toList_madeCells_one];simp[ints]
  rw[e1] at MX;exact MX
 case round =>
  obtain⟨k,hk,rfl,hrel⟩:=hrel;by_cases aU:k<s.all.length
  ·obtain⟨vs,qi,jX,kC,jK,mR,bh,D0,NZ⟩:=hrel
   obtain⟨gt,eS,e⟩:=cN D0.eD (by omega);obtain⟨rfl,rfl⟩:ao=some ⟨gt,0,none⟩/\zg=eS:=by simpa using e
   have ck:=D0.ab5 rfl k aU;have c1r:=D0.c1
   go_wp2_with fail
   refine (UT pb mb _ uv jX s k _ aU D0).mono ?_;rintro e w2 ⟨rfl,up2,Ej,rY⟩;have Ut:=kC.below rY HUB.out;have Xd:=bE jK rY (fun b hb e=>by simp[Qa] at hb;have:=HUB.out b e;omega);have Xe:=NZ.trans rY (fun j hj=>Or.inl hj);have hrel:xY w pb mb (.slice (some ⟨gt,0,none⟩) s.all.length zg) uv s k _ w2:=⟨vs,qi,up2,Ut,Xd,mR,bh,Ej,Xe⟩;have HR:=lh hrel;have hr:s.hd k<=k:=jP.le k (by rw[<-jP.len];exact aU);have hrr:s.hd (s.hd k)=s.hd k:=jP.own k (by rw[<-jP.len];exact aU);clear kC jK D0 NZ rY c1r ck c1 hrel Ut Xd mR bh Ej Xe
   go_upto_if 31 with fail
   go_cut [3] (fun ov wc=>Gu w pb mb (.slice (some ⟨gt,0,none⟩) s.all.length zg) uv s k ov wc)
   case first =>
    by_cases Rx:s.hd k=k
    ·obtain⟨vs,qi,jX,kC,jK,mR,bh,dN,dI⟩:=HR.out
     obtain⟨ao2,qC,rfl⟩:=cM kC.out;have EF:vs.length=(s.cY k).length:=by rw[kC.len];simp[St.gr]
     have hhl:=s.RQ k;have Ck:vs.length<4294967296:=by omega
     have yJ:qi.length=s.all.length:=by have:=jK.1;simpa[ints] using this
     have ek:(ints qi)[k]?=some (.int .i64 (qi.getD k 0)):=by simp[ints,Qb,show k<qi.length by omega]
     have ck:=jK.cellAt k (by omega);rw[ek] at ck;have fk:=jK.frozenAt k;have uP:=kC.aM ((ai.refl [w.heap.size] w2).setCell (p:=⟨w.heap.size,k,none⟩) (by simp) (.int .i64 (vs.length:Int))) (fun b hb e=>by
      simp at e;subst e;rcases jJ kC.out jK (by decide) with t | t
      ·rw[t] at hb;cases hb
      exact t (by rw[hb];rfl)) (fun j b hj hb e=>by simp at e;subst e;exact bh j hj hb)
     have HO:=lh uP.out;have di:w.heap.size<=(w2.setCell ⟨w.heap.size,k,none⟩ (.int .i64 (vs.length:Int))).heap.size:=by simp[World.setCell];exact dI.size
     have uW:=lh di;have uN:=lh kC;have aji:=lh jK;have HAT:=lh dN;have Fj:=lh dI;have ak0:=lh mR;have lK:=lh bh;have HK:=lh Rx;have anB:(((s.hd k:Nat):Int)==((k:Nat):Int))=true:=by rw[Rx];simp
     clear kC jK dN dI mR bh uP di EF hhl yJ ek Rx
     go_wp2_with (at_builtin;refine qA qS rfl (.tmp 37) (.tmp 38) rfl rfl rfl (by simp) HO.out uW.out rfl (Ei _ _ _) (by omega) ?_;intro g3 acL w3 ho3 dB hl3)
     go_meet
     case rel=>exact Un HK.out aU uN.out aji.out ak0.out lK.out HAT.out Fj.out HBL.out ho3 dB
    have anB:(((s.hd k:Nat):Int)==((k:Nat):Int))=false:=by rw[beq_eq_false_iff_ne];omega
    go_wp2
    go_meet
    case rel=>exact Ta jP aU Rx HR.out
   case rest =>
    obtain⟨go,cap,vs,qi,jX,rfl,kC,jK,mR,bh,dN,dI⟩:=hcut;have hkg:k<s.dp.length:=by rw[<-jP.len];exact aU
    have Cq:=St.BM jP hkg;rw[<-s.xz,<-kC.len] at Cq;have yJ:qi.length=s.all.length:=by have:=jK.1;simpa[ints] using this
    have a1:=jK.cellAt (s.hd k) (by omega);have ea:(ints qi)[s.hd k]?=some (.int .i64 ((s.iE k:Nat):Int)):=by
     have e1:=mR (s.hd k) (by omega) hrr;rw[show (s.cY (k+1)).idxOf (s.hd k)=s.iE k from rfl] at e1;rw[<-e1];simp[ints,Qb,show s.hd k<qi.length by omega]
    rw[ea] at a1;have a2:=kC.out.cellAt (s.iE k) (by omega);have a3:=kC.out.frozenAt (s.iE k);have bd:=kC.rows (s.iE k) (by omega);have ev:vs[s.iE k]?=some (vs.getD (s.iE k) undef):=by simp[Qb,Cq]
    rw[ev] at a2;have Se:((s.zz k).getD (s.iE k) []).length<4294967296:=by
     have:=s.U3 k (s.iE k);omega
    have X7:Hid (w.heap.size ∉ (vs.getD (s.iE k) undef).ownBlock.toList):=by
     intro e;exact bh (s.iE k) Cq (by simpa using e)
    have HGO:Hid (go ∉ (vs.getD (s.iE k) undef).ownBlock.toList):=by
     intro e;rcases jJ bd kC.out (by decide) with t | t
     ·rw[t] at e;cases e
     exact t (by simpa[Qa] using e)
    have Nl:Hid (∀ g5 zu w5,w5.ownsRow w.heap.size 3 1 (.slice (some ⟨g5,0,none⟩) (((s.zz k).getD (s.iE k) []).length+1) zu) (((s.zz k).getD (s.iE k) []).length+1) (ints ((s.zz k).getD (s.iE k) [])++[.int .i64 s.all[k]])->ai (vs.getD (s.iE k) undef).ownBlock.toList wc w5->((vs.getD (s.iE k) undef).ownBlock=some g5\/wc.heap.size<=g5) ->
      xY w pb mb (.slice (some ⟨gt,0,none⟩) s.all.length zg) uv s (k+1) (.slice (some ⟨go,0,none⟩) vs.length cap) (w5.setCell ⟨go,s.iE k,none⟩ (.slice (some ⟨g5,0,none⟩) (((s.zz k).getD (s.iE k) []).length+1) zu))) :=
     fun g5 zu w5 ho hc hl=>Me jP aU kC rfl jK mR bh dN dI HBL.out rfl rfl rfl rfl (by simp[Qb,aU]) ho hc hl
    have HB:Hid (w.heap.size<=wc.heap.size):=dI.size;have bU:=lh bd;clear kC jK mR bh dN dI bd ea ev yJ hkg;generalize hv:vs.getD (s.iE k) undef=v at *;generalize (s.zz k).getD (s.iE k) []=l at *;generalize s.iE k=q at *;generalize s.hd k=r at *;obtain⟨av,cv,rfl⟩:=cM bU.out;clear hv;have i1:(0:Int)<=(r:Int):=by omega
    have i2:(r:Int)<(s.all.length:Int):=by omega
    have i3:(0:Int)<=(q:Int):=by omega
    have i4:(q:Int)<(vs.length:Int):=by omega
    have a1n:=fun o=>dC a1 o;have a2n:=fun o=>dC a2 o;go_wp2
    go_region_law ((refine PC cJ rfl _ _ (by rfl) (by rfl) (by rfl) (by simp) bU.out HB.out rfl (OO _) (by omega) (by first | exact Or.inl rfl | exact Qd rfl) ?_;intro g5 zu w5 GL gV V4;have b1:=gV.cell a2 HGO.out;have b2:=gV.frozen a2 a3 HGO.out;have b3:=gV.cell a1 X7.out))
    all_goals
     have HG:=lh (Nl.out g5 zu w5 GL gV V4);clear GL gV V4 b1 b2 b3 a1 a2 a3 a1n a2n;go_wp2
     go_roundw
     case rel=>exact⟨k+1,by omega,by go_num,HG.out⟩
     case measure=>simp[intOf];omega
  have e:k=s.all.length:=by omega
  subst e;obtain⟨vs,qi,jX,kC,jK,mR,bh,D0,NZ⟩:=hrel;have HF:Hid (bW wr w.heap.size u3 vs s.groups):=kC;have HT:Hid (cF wr pb (aW.blocks pb mb (.slice ao s.all.length zg) uv) s/\ai (aW.blocks pb mb (.slice ao s.all.length zg) uv) w wr):=⟨⟨mb,_,uv,jX,D0,rfl⟩,NZ.mono (fun j hj=>Or.inl (by simp only[aW.blocks,Qc];exact Qd hj))⟩;clear kC jK mR bh D0 NZ hk aU;go_wp2;go_ret;exact⟨_,vs,rfl,HF.out,HT.out⟩
end Go.Proofs.YtbkjljffnkdcjaaGreat
