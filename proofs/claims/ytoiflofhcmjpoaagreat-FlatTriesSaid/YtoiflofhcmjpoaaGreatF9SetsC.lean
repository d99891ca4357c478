/- package sets: contract of Groups. Condition: an object with fewer than 2^32 fJ. -/
import Derived.Test.YtoiflofhcmjpoaaGreatF9SetsB
import Derived.Test.YtoiflofhcmjpoaaGreatF9Rows2
import Derived.Deep.DeepCutAuto
import Derived.Deep.RegionLaw
set_option maxHeartbeats 800000
open Go.Value renaming ownBlock→Qa,int→Qf
open List renaming getD→Qb,mem_append→Qc,replicate→Qe
open Or renaming inr→Qd
namespace Go.Proofs.YtoiflofhcmjpoaaGreat
open Go.RowKit Go.Maps
variable {w wr w3 w2 w5:World} {pb mb k cap q:Nat} {tv uv ov v:Value} {s:St} {sj ll:List Int} {kv:List Nat}
def yG (w:World) (pb mb:Nat) (tv uv:Value) (s:St) (k:Nat) (ov:Value) (wr:World):Prop :=
 ∃ vs sj kv,bt wr w.heap.size ov vs (s.gr k)/\wr.ownsRow w.heap.size 3 1 (.slice (some ⟨w.heap.size,0,none⟩) s.all.length s.all.length) s.all.length (ints sj) /\
  (∀ h,h<k->s.hd h=h->sj.getD h 0=((s.dq k).idxOf h:Nat))/\(∀ j,j<vs.length->(vs.getD j undef).ownBlock≠some w.heap.size)/\aZ wr pb mb tv uv kv s/\ai uv.ownBlock.toList w wr
def K6 (w:World) (pb mb:Nat) (tv uv:Value) (s:St) (k:Nat) (ov:Value) (wr:World):Prop :=
 ∃ go cap vs sj kv,ov=.slice (some ⟨go,0,none⟩) vs.length cap/\bt wr w.heap.size ov vs (s.AY k)/\wr.ownsRow w.heap.size 3 1 (.slice (some ⟨w.heap.size,0,none⟩) s.all.length s.all.length) s.all.length (ints sj) /\
  (∀ h,h<k+1->s.hd h=h->sj.getD h 0=((s.dq (k+1)).idxOf h:Nat))/\(∀ j,j<vs.length->(vs.getD j undef).ownBlock≠some w.heap.size)/\aZ wr pb mb tv uv kv s/\ai uv.ownBlock.toList w wr
theorem XP (kL:s.Ok) (aW:k<s.all.length) (RM:s.hd k≠k) (h:yG w pb mb tv uv s k ov wr):K6 w pb mb tv uv s k ov wr:=by
 obtain⟨vs,sj,kv,lG,kd,pD,bn,eJ,ij⟩:=h;have hr:s.hd k<=k:=kL.le k (by rw[<-kL.len];exact aW);have hrr:s.hd (s.hd k)=s.hd k:=kL.own k (by rw[<-kL.len];exact aW);have Cl:vs.length=(s.dq k).length:=by rw[lG.len];simp[St.gr]
 have tX:=List.idxOf_lt_length_iff.2 (St.qC.2 ⟨by omega,hrr⟩:s.hd k∈s.dq k);obtain⟨go,cap,rfl⟩:=dj lG.out (by omega);refine⟨go,cap,vs,sj,kv,rfl,?_,kd,λj hj e=>?_,bn,eJ,ij⟩
 ·have:s.AY k=s.gr k:=if_neg RM
  rw[this];exact lG
 have hjk:j<k:=by
  rcases Nat.lt_or_ge j k with q | q
  ·exact q
  have:j=k:=by omega
  subst this;exact absurd e RM
 rw[pD j hjk e,St.Cv hjk e]
theorem Xm {g:Nat} {vs:List Value} (hk:s.hd k=k) (aW:k<s.all.length)
  (lG:bt wr w.heap.size ov vs (s.gr k)) (kd:wr.ownsRow w.heap.size 3 1 (.slice (some ⟨w.heap.size,0,none⟩) s.all.length s.all.length) s.all.length (ints sj))
  (pD:∀ h,h<k->s.hd h=h->sj.getD h 0=((s.dq k).idxOf h:Nat)) (bn:∀ j,j<vs.length->(vs.getD j undef).ownBlock≠some w.heap.size) (eJ:aZ wr pb mb tv uv kv s) (ij:ai uv.ownBlock.toList w wr)
  (gZ:∀ b∈aZ.blocks pb mb tv uv,b<w.heap.size)
  (b9:w3.ownsRow w.heap.size 25 1 (.slice (some ⟨g,0,none⟩) (vs.length+1) cap) (vs.length+1) (vs++[.slice none 0 0]))
  (dK:ai ov.ownBlock.toList (wr.setCell ⟨w.heap.size,k,none⟩ (.int .i64 (vs.length:Int))) w3):K6 w pb mb tv uv s k (.slice (some ⟨g,0,none⟩) (vs.length+1) cap) w3:=by
 have xC:=kd.stored k (.int .i64 (vs.length:Int));have Et:∀ j∈ov.ownBlock.toList,w.heap.size<=j/\j≠w.heap.size:=by
  intro j hj;have e:ov.ownBlock=some j:=by simpa using hj
  refine⟨(lG.out.lt j e).1,λq=>?_⟩;rcases gB lG.out kd (by decide) with t | t
  ·rw[t] at e;cases e
  exact t (by rw[e,q];rfl)
 have bI:ai [w.heap.size] wr (wr.setCell ⟨w.heap.size,k,none⟩ (.int .i64 (vs.length:Int))):=(ai.refl _ _).setCell (by simp) _;have Bc:=lG.aL bI (λb hb e=>by simp at e;exact (Et b (by simpa using hb)).2 e) (λj b hj hb e=>by simp at e;subst e;exact bn j hj hb);have Cl:vs.length=(s.dq k).length:=by rw[lG.len];simp[St.gr]
 have Bz:sj.length=s.all.length:=by have:=kd.1;simpa[ints] using this
 refine⟨g,cap,vs++[.slice none 0 0],sj.set k (vs.length:Int),kv,by simp,?_,?_,?_,?_,?_,?_⟩
 ·have:s.AY k=s.gr k++[[]]:=if_pos hk
  rw[this];exact Bc.push b9 dK
 ·refine bG ?_ dK (λb hb e=>?_)
  ·have e1:ints (sj.set k (vs.length:Int))=(ints sj).set k (.int .i64 (vs.length:Int)):=by simp[ints,List.map_set]
   rw[e1];exact xC.1
  have:=Et b e;simp[Qa] at hb;omega
 ·intro h hh e
  by_cases q:h=k
  ·subst q
   rw[St.Ww e,<-Cl];simp[Qb,show h<sj.length by omega]
  rw[St.Cv (by omega) e,<-pD h (by omega) e];simp[Qb,List.getElem?_set_ne (Ne.symm q)]
 ·intro j hj
  simp at hj;by_cases q:j<vs.length
  ·have:(vs++[Value.slice none 0 0]).getD j undef=vs.getD j undef:=by simp only[Qb];rw[List.getElem?_append_left q]
   rw[this];exact bn j q
  have:j=vs.length:=by omega
  subst this;simp[Qa]
 ·exact (eJ.aL bI (λb hb e=>by have:=gZ b hb;simp at e;omega)).aL dK (λb hb e=>by have:=gZ b hb;have:=(Et b e).1;omega)
 exact (ij.trans bI (λj hj=>Qd (by simp at hj;omega))).trans dK (λj hj=>Qd (Et j hj).1)
theorem MU {go g5 Bl n l:Nat} {vs:List Value} {x:Int} (kL:s.Ok) (aW:k<s.all.length)
  (lG:bt w2 w.heap.size (.slice (some ⟨go,0,none⟩) n cap) vs (s.AY k)) (hn:n=vs.length) (kd:w2.ownsRow w.heap.size 3 1 (.slice (some ⟨w.heap.size,0,none⟩) s.all.length s.all.length) s.all.length (ints sj))
  (pD:∀ h,h<k+1->s.hd h=h->sj.getD h 0=((s.dq (k+1)).idxOf h:Nat)) (bn:∀ j,j<vs.length->(vs.getD j undef).ownBlock≠some w.heap.size) (eJ:aZ w2 pb mb tv uv kv s) (ij:ai uv.ownBlock.toList w w2)
  (gZ:∀ b∈aZ.blocks pb mb tv uv,b<w.heap.size) (hq:s.iP k=q) (hv:vs.getD q undef=v) (Eb:(s.AY k).getD q []=ll) (hl:l=ll.length) (hx:s.all.getD k 0=x)
  (ho:w5.ownsRow w.heap.size 3 1 (.slice (some ⟨g5,0,none⟩) (l+1) Bl) (l+1) (ints ll++[.int .i64 x])) (hc:ai v.ownBlock.toList w2 w5) (Yb:v.ownBlock=some g5\/w2.heap.size<=g5) :
  yG w pb mb tv uv s (k+1) (.slice (some ⟨go,0,none⟩) n cap) (w5.setCell ⟨go,q,none⟩ (.slice (some ⟨g5,0,none⟩) (l+1) Bl)):=by
 subst hl Eb hv hx;have hkg:k<s.dY.length:=by rw[<-kL.len];exact aW
 have qX:=St.Df kL hkg;rw[<-s.yd,<-lG.len,hq] at qX;have X4:∀ j∈(vs.getD q undef).ownBlock.toList,w.heap.size<=j/\j≠w.heap.size:=by
  intro j hj;have e:(vs.getD q undef).ownBlock=some j:=by simpa using hj
  exact⟨((lG.rows q qX).lt j e).1,λt=>bn q qX (by rw[e,t])⟩
 have hgo:w.heap.size<=go/\go≠w.heap.size:=by
  refine⟨(lG.out.lt go rfl).1,λt=>?_⟩;rcases gB lG.out kd (by decide) with r | r
  ·simp[Qa] at r
  exact r (by simp[Qa,t])
 have ja:ai [go] w5 (w5.setCell ⟨go,q,none⟩ (.slice (some ⟨g5,0,none⟩) (((s.AY k).getD q []).length+1) Bl)):=(ai.refl _ _).setCell (by simp) _;refine⟨vs.set q (.slice (some ⟨g5,0,none⟩) (((s.AY k).getD q []).length+1) Bl),sj,kv,?_,?_,pD,?_,?_,?_⟩
 ·rw[St.WT kL hkg,hq]
  exact lG.put hn qX ho hc Yb
 ·exact bG (bG kd hc (λb hb e=>by have:=X4 b e;simp[Qa] at hb;omega)) ja (λb hb e=>by simp[Qa] at hb e;omega)
 ·intro j hj
  rw[List.length_set] at hj;rw[qA _ _ _ _ qX];by_cases e:j=q
  ·rw[if_pos e]
   simp only[Qa,ne_eq,Option.some.injEq];rcases Yb with r | r
   ·exact (X4 g5 (by rw[r];simp)).2
   have:=(kd.lt w.heap.size rfl).2;omega
  rw[if_neg e];exact bn j hj
 ·exact (eJ.aL hc (λb hb e=>by have:=gZ b hb;have:=(X4 b e).1;omega)).aL ja (λb hb e=>by have:=gZ b hb;simp at e;omega)
 exact (ij.trans hc (λj hj=>Qd (X4 j hj).1)).trans ja (λj hj=>Qd (by simp at hj;omega))
theorem GD (pb:Nat) (own:List Nat) (s:St) (w:World) (hn:s.all.length<4294967296) (h:cI w pb own s) :
  Calls Tryz.prog 177 #[.pointer (some ⟨pb,0,none⟩)] w λe w'=>∃ ov vs,e=.returned ov/\bt w' w.heap.size ov vs s.groups/\cI w' pb own s/\ai own w w':=by
 have kL:=h.ok;obtain⟨mb,tv,uv,up,eJ,rfl⟩:=h;obtain⟨ao,AX,rfl⟩:=bR eJ.fJ;have c1:=eJ.c1;have HA:=lh eJ;have HUB:Hid (∀ j∈uv.ownBlock.toList,j<w.heap.size):=λj hj=>(eJ.Hn.lt j (by simpa using hj)).2;have HBL:Hid (∀ b∈aZ.blocks pb mb (.slice ao s.all.length AX) uv,b<w.heap.size):=by
  intro b hb;simp only[aZ.blocks,Qc,List.mem_cons,List.mem_nil_iff,or_false] at hb;rcases hb with ((q | q) | q) | q
  ·subst q;exact lt_of_block eJ.cells
  ·subst q;exact eJ.map.lt
  ·exact (eJ.fJ.lt b (by simpa using q)).2
  exact HUB b q
 clear eJ;go_enter Tryz.func177,Tryz.ntmps177;go_wp2_with (at_make;refine Ee cM rfl _ _ rfl (B:=w.heap.size) (n:=s.all.length) rfl rfl (Nat.le_refl _) (by omega) ?_;intro w1 Pb dD;have aaU:=HA.out.aL dD (by simp);clear c1;have c1:=aaU.c1;have HA1:=lh aaU;clear aaU);go_loopw [3,21] (λov c wr=>∃ k:Nat,k<=s.all.length/\c=.int .i64 k/\yG w pb mb (.slice ao s.all.length AX) uv s k ov wr) (λ_ c _=>s.all.length - (intOf c).toNat);case atStart =>
  refine⟨0,Nat.zero_le _,rfl,[],Qe s.all.length 0,up,bt.nil _ _,?_,by intro h hh;omega,by simp,HA1.out,dD.mono (by simp)⟩;rw[Nat.mul_one] at Pb;have e1:(madeCells (Qf .i64 0).cells s.all.length).toList=ints (Qe s.all.length 0):=by
   show (madeCells #[Qf .i64 0] s.all.length).toList=_;rw[toList_madeCells_one];simp[ints]
  rw[e1] at Pb;exact Pb
 case round =>
  obtain⟨k,hk,rfl,hrel⟩:=hrel;by_cases aW:k<s.all.length
  ·obtain⟨vs,sj,kv,lG,kd,pD,bn,EF,TJ⟩:=hrel
   obtain⟨gt,gF,e⟩:=dj EF.fJ (by omega);obtain⟨rfl,rfl⟩:ao=some ⟨gt,0,none⟩/\AX=gF:=by simpa using e
   have ck:=EF.afS rfl k aW;have c1r:=EF.c1;go_wp2_with fail;refine (V2 pb mb _ uv kv s k _ aW EF).mono ?_;rintro e w2 ⟨rfl,up2,Hl,tF⟩;have Bc:=lG.below tF HUB.out;have YS:=bG kd tF (λb hb e=>by simp[Qa] at hb;have:=HUB.out b e;omega);have Zp:=TJ.trans tF (λj hj=>Or.inl hj);have hrel:yG w pb mb (.slice (some ⟨gt,0,none⟩) s.all.length AX) uv s k _ w2:=⟨vs,sj,up2,Bc,YS,pD,bn,Hl,Zp⟩;have HR:=lh hrel;have hr:s.hd k<=k:=kL.le k (by rw[<-kL.len];exact aW);have hrr:s.hd (s.hd k)=s.hd k:=kL.own k (by rw[<-kL.len];exact aW);clear lG kd EF TJ tF c1r ck c1 hrel Bc YS pD bn Hl Zp;go_upto_if 31 with fail;go_cut [3] (λov wc=>K6 w pb mb (.slice (some ⟨gt,0,none⟩) s.all.length AX) uv s k ov wc)
   case first =>
    by_cases RM:s.hd k=k
    ·obtain⟨vs,sj,kv,lG,kd,pD,bn,eJ,ij⟩:=HR.out
     obtain⟨ao2,tM,rfl⟩:=bR lG.out;have Cl:vs.length=(s.dq k).length:=by rw[lG.len];simp[St.gr]
     have hhl:=s.SY k;have E9:vs.length<4294967296:=by omega
     have Bz:sj.length=s.all.length:=by have:=kd.1;simpa[ints] using this
     have ek:(ints sj)[k]?=some (.int .i64 (sj.getD k 0)):=by simp[ints,Qb,show k<sj.length by omega]
     have ck:=kd.cellAt k (by omega);rw[ek] at ck;have fk:=kd.frozenAt k;have xC:=lG.aL ((ai.refl [w.heap.size] w2).setCell (p:=⟨w.heap.size,k,none⟩) (by simp) (.int .i64 (vs.length:Int))) (λb hb e=>by
      simp at e;subst e;rcases gB lG.out kd (by decide) with t | t
      ·rw[t] at hb;cases hb
      exact t (by rw[hb];rfl)) (λj b hj hb e=>by simp at e;subst e;exact bn j hj hb)
     have HO:=lh xC.out;have bs:w.heap.size<=(w2.setCell ⟨w.heap.size,k,none⟩ (.int .i64 (vs.length:Int))).heap.size:=by simp[World.setCell];exact ij.size
     have qk:=lh bs;have Ex:=lh lG;have alY:=lh kd;have Xk:=lh eJ;have SH:=lh ij;have anK:=lh pD;have jq:=lh bn;have HK:=lh RM;have akM:(((s.hd k:Nat):Int)==((k:Nat):Int))=true:=by rw[RM];simp
     clear lG kd eJ ij pD bn xC bs Cl hhl Bz ek RM;go_wp2_with (at_builtin;refine pj qq rfl (.tmp 37) (.tmp 38) rfl rfl rfl (by simp) HO.out qk.out rfl (zi _ _ _) (by omega) ?_;intro g3 ao3 w3 ho3 dK hl3);go_meet;case rel=>exact Xm HK.out aW Ex.out alY.out anK.out jq.out Xk.out SH.out HBL.out ho3 dK
    have akM:(((s.hd k:Nat):Int)==((k:Nat):Int))=false:=by rw[beq_eq_false_iff_ne];omega
    go_wp2;go_meet;case rel=>exact XP kL aW RM HR.out
   case rest =>
    obtain⟨go,cap,vs,sj,kv,rfl,lG,kd,pD,bn,eJ,ij⟩:=hcut;have hkg:k<s.dY.length:=by rw[<-kL.len];exact aW
    have qX:=St.Df kL hkg;rw[<-s.yd,<-lG.len] at qX;have Bz:sj.length=s.all.length:=by have:=kd.1;simpa[ints] using this
    have a1:=kd.cellAt (s.hd k) (by omega);have ea:(ints sj)[s.hd k]?=some (.int .i64 ((s.iP k:Nat):Int)):=by
     have e1:=pD (s.hd k) (by omega) hrr;rw[show (s.dq (k+1)).idxOf (s.hd k)=s.iP k from rfl] at e1;rw[<-e1];simp[ints,Qb,show s.hd k<sj.length by omega]
    rw[ea] at a1;have a2:=lG.out.cellAt (s.iP k) (by omega);have a3:=lG.out.frozenAt (s.iP k);have aT:=lG.rows (s.iP k) (by omega);have ev:vs[s.iP k]?=some (vs.getD (s.iP k) undef):=by simp[Qb,qX]
    rw[ev] at a2;have Eb:((s.AY k).getD (s.iP k) []).length<4294967296:=by
     have:=s.WG k (s.iP k);omega
    have HGA:Hid (w.heap.size ∉ (vs.getD (s.iP k) undef).ownBlock.toList):=by
     intro e;exact bn (s.iP k) qX (by simpa using e)
    have HGO:Hid (go ∉ (vs.getD (s.iP k) undef).ownBlock.toList):=by
     intro e;rcases gB aT lG.out (by decide) with t | t
     ·rw[t] at e;cases e
     exact t (by simpa[Qa] using e)
    have LB:Hid (∀ g5 Bl w5,w5.ownsRow w.heap.size 3 1 (.slice (some ⟨g5,0,none⟩) (((s.AY k).getD (s.iP k) []).length+1) Bl) (((s.AY k).getD (s.iP k) []).length+1) (ints ((s.AY k).getD (s.iP k) [])++[.int .i64 s.all[k]])->ai (vs.getD (s.iP k) undef).ownBlock.toList wc w5->((vs.getD (s.iP k) undef).ownBlock=some g5\/wc.heap.size<=g5) ->
      yG w pb mb (.slice (some ⟨gt,0,none⟩) s.all.length AX) uv s (k+1) (.slice (some ⟨go,0,none⟩) vs.length cap) (w5.setCell ⟨go,s.iP k,none⟩ (.slice (some ⟨g5,0,none⟩) (((s.AY k).getD (s.iP k) []).length+1) Bl))) :=
     λg5 Bl w5 ho hc hl=>MU kL aW lG rfl kd pD bn eJ ij HBL.out rfl rfl rfl rfl (by simp[Qb,aW]) ho hc hl
    have HB:Hid (w.heap.size<=wc.heap.size):=ij.size;have bA:=lh aT;clear lG kd pD bn eJ ij aT ea ev Bz hkg;generalize hv:vs.getD (s.iP k) undef=v at *;generalize (s.AY k).getD (s.iP k) []=l at *;generalize s.iP k=q at *;generalize s.hd k=r at *;obtain⟨av,cv,rfl⟩:=bR bA.out;clear hv;have i1:(0:Int)<=(r:Int):=by omega
    have i2:(r:Int)<(s.all.length:Int):=by omega
    have i3:(0:Int)<=(q:Int):=by omega
    have i4:(q:Int)<(vs.length:Int):=by omega
    have a1n:=λo=>fO a1 o;have a2n:=λo=>fO a2 o;go_wp2;go_region_law ((refine SB cM rfl _ _ (by rfl) (by rfl) (by rfl) (by simp) bA.out HB.out rfl (Rp _) (by omega) (by first | exact Or.inl rfl | exact Qd rfl) ?_;intro g5 Bl w5 NN dV Yb;have b1:=dV.cell a2 HGO.out;have b2:=dV.frozen a2 a3 HGO.out;have b3:=dV.cell a1 HGA.out))
    all_goals
     have HG:=lh (LB.out g5 Bl w5 NN dV Yb);clear NN dV Yb b1 b2 b3 a1 a2 a3 a1n a2n;go_wp2;go_roundw;case rel=>exact⟨k+1,by omega,by go_num,HG.out⟩
     case measure=>simp[intOf];omega
  have e:k=s.all.length:=by omega
  subst e;obtain⟨vs,sj,kv,lG,kd,pD,bn,EF,TJ⟩:=hrel;have HF:Hid (bt wr w.heap.size u3 vs s.groups):=lG;have HT:Hid (cI wr pb (aZ.blocks pb mb (.slice ao s.all.length AX) uv) s/\ai (aZ.blocks pb mb (.slice ao s.all.length AX) uv) w wr):=⟨⟨mb,_,uv,kv,EF,rfl⟩,TJ.mono (λj hj=>Or.inl (by simp only[aZ.blocks,Qc];exact Qd hj))⟩;clear lG kd pD bn EF TJ hk aW;go_wp2;go_ret;exact⟨_,vs,rfl,HF.out,HT.out⟩
