/- ref02: the contracts of Find, Right. Condition: a list that lies in memory and reads so. -/
import Derived.Test.YtoiflofhcmjpoaaGreatF9RefG
set_option maxRecDepth 100000
set_option maxHeartbeats 4000000
open List renaming take_succ_eq_append_getElem→Qa,take_length→Qb,mem_flatten→Qc,nodup_cons→Qd,mem_map→Qe,getD→Qg,not_of_lt_findIdx→Qh,length_take→Qk,all_eq_true→Ql,mem_append→Qm
open Nat renaming zero_le→Qf,le_trans→Qj,add_assoc→Qn
open Go.Act renaming put→Qi
open Go.Value renaming slice→Qo
namespace Go.Proofs.YtoiflofhcmjpoaaGreat
open Plain
open Go.RowKit Go.Maps
namespace Plain
variable {l:List Int} {x:Int}
def nE (l:List Int) (x:Int):Int:=if x∈l then (l.idxOf x:Nat) else -1
theorem Ak {k:Nat} (hk:k<l.length) (h:l.getD k 0=x) (hn:x ∉ l.take k):nE l x=k:=by
 have hm:x∈l:=by rw[<-h];simp[Qg,hk]
 have hi:=List.idxOf_lt_length_iff.2 hm;unfold nE;rw[if_pos hm];have h1:¬ l.idxOf x<k:=λq=>hn (by
  have e:(l.take k)[l.idxOf x]?=some x:=by grind
  exact List.mem_of_getElem? e)
 have h2:¬ k<l.idxOf x:=λq=>by
  have:=Qh (xs:=l) (p:=λy=>y==x) q
  grind
 omega
theorem Fx (h:x ∉ l):nE l x = -1:=if_neg h
end Plain
namespace Plain
variable {l:List Int} {k:Nat}
theorem On (hk:k<l.length):nE l (l.getD k 0)<k↔l.getD k 0∈l.take k:=by
 constructor
 ·intro h
  by_cases q:l.getD k 0∈l.take k
  ·exact q
  rw[Ak hk rfl q] at h;omega
 intro h;obtain⟨i,hi,e⟩:=List.getElem_of_mem h;rw[Qk] at hi;rw[List.getElem_take] at e;have hm:l.getD k 0∈l:=by simp[Qg,hk]
 unfold nE;rw[if_pos hm];have h2:¬ i<l.idxOf (l.getD k 0):=λq=>by
  have:=Qh (xs:=l) (p:=λy=>y==l.getD k 0) q;simp at this;exact this (by simpa[Qg,hk] using e)
 omega
theorem Iz (hk:k<l.length):(l.take (k+1)).Nodup↔(l.take k).Nodup/\l.getD k 0 ∉ l.take k:=by
 have e:l.take (k+1)=l.take k++[l.getD k 0]:=by rw[Qa hk];simp[Qg,hk]
 all_goals grind
end Plain
theorem zY (v:Value) (l:List Int) (x:Int) (w:World) (h:aI w v l) :
  Calls Tryz.prog 182 #[v,.int .i64 x] w λe w'=>e=.returned (.int .i64 (nE l x))/\ai [] w w':=by
 obtain⟨ao,cap,rfl,-,hm,aS⟩:=h;have oe:=lh aS;clear aS;go_enter Tryz.func182,Tryz.ntmps182;go_wp2;go_loopw [5] (λc wr=>∃ k:Nat,k<=l.length/\c=.int .i64 k/\ai [] w wr/\Hid (x ∉ l.take k)) (λc _=>l.length - (intOf c).toNat);case atStart=>exact⟨0,Qf _,rfl,ai.refl _ _,lh (by simp)⟩
 case round =>
  obtain⟨k,hk,rfl,hc,gV⟩:=hrel;have HC:=lh hc;by_cases aW:k<l.length
  ·obtain⟨b,off,rfl,qL⟩:=oe.out (by grind)
   have c0:=hc.c (qL k aW);have HH:=lh (λh=>Ak (x:=x) aW h gV.out);have HT:=lh (show l.take (k+1)=l.take k++[l.getD k 0] by rw[Qa aW];simp[Qg,aW]);obtain⟨z,hz⟩:∃ z,l.getD k 0=z:=⟨_,rfl⟩;rw[hz] at c0 HH HT;clear qL hc hz;by_cases e:z=x
   ·have HE:=lh (HH.out e)
    have b1:(z==x)=true:=by grind
    clear e;go_wp2;go_ret;exact⟨aR HE.out.symm,HC.out⟩
   have HN:=lh (show x ∉ l.take (k+1) by rw[HT.out,Qm];rintro (q | q);exact gV.out q;exact e (List.mem_singleton.1 q).symm);have b1:(z==x)=false:=by grind
   clear e;go_wp2;go_roundw;case rel=>exact⟨k+1,by omega,by go_num,HC.out,HN⟩
   case measure=>simp[intOf];omega
  have e:k=l.length:=by omega
  subst e;have HE:=lh (Fx (l:=l) (x:=x) (by have:=gV.out;rwa[Qb] at this));clear hc;go_wp2;go_ret;exact⟨aR HE.out.symm,HC.out⟩
theorem GK (v:Value) (l:List Int) (w:World) (h:aI w v l) :
  Calls Tryz.prog 170 #[v] w λe w'=>e=.returned (.bool (decide l.Nodup))/\ai [] w w':=by
 have HI:=lh h;obtain⟨ao,cap,rfl,-,hm,aS⟩:=h;have oe:=lh aS;clear aS;go_enter Tryz.func170,Tryz.ntmps170;go_wp2;go_loopw [3] (λc wr=>∃ k:Nat,k<=l.length/\c=.int .i64 k/\ai [] w wr/\Hid ((l.take k).Nodup)) (λc _=>l.length - (intOf c).toNat);case atStart=>exact⟨0,Qf _,rfl,ai.refl _ _,lh (by simp)⟩
 case round =>
  obtain⟨k,hk,rfl,hc,gV⟩:=hrel;have HC:=lh hc;by_cases aW:k<l.length
  ·obtain⟨b,off,rfl,qL⟩:=oe.out (by grind)
   have c0:=hc.c (qL k aW);have HL:=lh (On aW);have HS:=lh (Iz aW);have Be:=lh (λ(h:l.Nodup)=>h.sublist (List.take_sublist (k+1) l));obtain⟨z,hz⟩:∃ z,l.getD k 0=z:=⟨_,rfl⟩;rw[hz] at c0 HL HS;clear qL hc hz;go_wp2_with fail;refine (zY _ l z _ (HI.out.fresh HC.out)).mono ?_;rintro e w2 ⟨rfl,bI⟩;have bU:=lh (HC.out.t bI);clear bI c0;by_cases q:z∈l.take k
   ·have b1:decide (nE l z<(k:Int))=true:=decide_eq_true (HL.out.2 q)
    have HE:=lh (show decide l.Nodup=false from decide_eq_false λh=>(HS.out.1 (Be.out h)).2 q);clear q;go_wp2;go_ret;exact⟨aM HE.out.symm,bU.out⟩
   have b1:decide (nE l z<(k:Int))=false:=decide_eq_false λh=>q (HL.out.1 h);have HN:=lh (HS.out.2 ⟨gV.out,q⟩);clear q;go_wp2;go_roundw;case rel=>exact⟨k+1,by omega,by go_num,bU.out,HN⟩
   case measure=>simp[intOf];omega
  have e:k=l.length:=by omega
  subst e;have HE:=lh (decide_eq_true (by have:=gV.out;rwa[Qb] at this:l.Nodup));clear hc;go_wp2;go_ret;exact⟨aM HE.out.symm,HC.out⟩
end Go.Proofs.YtoiflofhcmjpoaaGreat
namespace Go.Proofs.YtoiflofhcmjpoaaGreat.Plain
variable {g:Gr} {p:Pt} {d v e:Int} {l m:List Int} {k i:Nat}
theorem IJ {aa:List (List Int)} (hp:aD g p) (ht:aK g p aa):∃ C,bw (aA g aa) C/\C.flatten.Perm p.ah:=by
 obtain⟨h1,h2⟩:=kH ht hp.en hp.vn hp.vr;have hA:=zr hp.en;have hl:leaving g p p.v=p.ah:=List.filter_eq_self.2 λd hd=>decide_eq_true (hp.aP hd).1;have hd:(p.e.map λe=>[2*e,2*e+1]).flatten=p.ah:=by rw[Pt.ah,List.flatMap_def]
 obtain⟨C,h,k,-⟩:=bw.mul _ rfl h1 hA (by grind);exact⟨C,h.congr λx _=>rfl,by grind⟩
structure Vj (g:Gr) (p:Pt) (aa:List (List Int)) (d:Int) (l:List Int):Prop where
 ring:Ring (aA g aa) (d :: l)
 nodup:(d :: l).Nodup
 sub:∀ x∈d :: l,x∈p.ah
theorem Fm {aa:List (List Int)} (hp:aD g p) (ht:aK g p aa) (hd:d∈p.ah):∃ l,Vj g p aa d l:=by
 obtain⟨C,hC,dm⟩:=IJ hp ht;obtain⟨c,hc,Lo⟩:=Qc.1 (dm.mem_iff.2 hd);obtain⟨l,hl,AT⟩:=(hC.ring c hc).from Lo;exact⟨l,hl,AT.nodup_iff.2 ((iD.1 hC.nodup).1 c hc),λx hx=>dm.mem_iff.1 (Qc.2 ⟨c,hc,AT.mem_iff.1 hx⟩)⟩
theorem Vj.one {aa:List (List Int)} (h:Vj g p aa d l) (k:Vj g p aa d m):l=m :=
 Trail.det (x:=d) h.ring k.ring (Qd.1 h.nodup).1 (Qd.1 k.nodup).1
theorem Vj.aa {g:Gr} {p:Pt} {aa:List (List Int)} {d x:Int} {l:List Int} (h:Vj g p aa d l) (hx:x∈d :: l):∃ m,Vj g p aa x m/\(x :: m).Perm (d :: l):=by
 obtain⟨m,hm,hp⟩:=h.ring.from hx;exact⟨m,⟨hm,hp.nodup_iff.2 h.nodup,λy hy=>h.sub y (hp.mem_iff.1 hy)⟩,hp⟩
open Classical in
noncomputable def pO (g:Gr) (p:Pt) (aa:List (List Int)) (d:Int):List Int:=if h:∃ l,Vj g p aa d l then Classical.choose h else []
theorem z8 {aa:List (List Int)} (hp:aD g p) (ht:aK g p aa) (hd:d∈p.ah):Vj g p aa d (pO g p aa d):=by
 grind [Fm,pO]
theorem Lr {q:Int->Int} (h:Ring q (d :: l)) (hk:k<=l.length):q ((d :: l).getD k 0)=(l++[d]).getD k 0:=by
 have e:=Trail.map (show Trail q d l d from h)
 grind
noncomputable def rG (g:Gr) (p:Pt) (aa:List (List Int)) (d:Int):Bool:=(pO g p aa d).all λx=>decide (d<x)
noncomputable def dL (g:Gr) (p:Pt) (aa:List (List Int)) (k:Nat):List bP:=((p.ah.take k).filter (rG g p aa)).map λd=>(d,d :: pO g p aa d)
theorem Gc (g:Gr) (p:Pt) (aa:List (List Int)):dL g p aa 0=[]:=by simp[dL]
theorem EW {aa:List (List Int)} (hk:k<p.ah.length):dL g p aa (k+1)=dL g p aa k++if rG g p aa (p.ah.getD k 0) then [(p.ah.getD k 0,p.ah.getD k 0 :: pO g p aa (p.ah.getD k 0))] else []:=by
 all_goals grind [dL,mV,rG]
theorem Ji (g:Gr) (p:Pt) (aa:List (List Int)) (k:Nat):(dL g p aa k).length<=k:=by
 grind [dL]
theorem fK {aa:List (List Int)} {f:bP} (h:f∈dL g p aa k):f.1∈p.ah/\rG g p aa f.1=true/\f.2=f.1 :: pO g p aa f.1:=by
 grind [dL]
theorem zw {aa:List (List Int)} (hp:aD g p) (hr:p.e.Pairwise (·<·)) (ht:aK g p aa):Lb g p aa (dL g p aa p.ah.length) p.ah:=by
 have hle:∀ f∈dL g p aa p.ah.length,∀ y∈f.2,f.1<=y:=by
  intro f hf y hy;obtain⟨-,h2,h3⟩:=fK hf;rw[h3] at hy;rcases List.mem_cons.1 hy with q | q
  ·omega
  have:=Ql.1 h2 y q;simp at this;omega
 have T9:∀ f∈dL g p aa p.ah.length,Vj g p aa f.1 (pO g p aa f.1):=λf hf=>z8 hp ht (fK hf).1;have aiy:((dL g p aa p.ah.length).map (·.1))=p.ah.filter (rG g p aa):=by
  unfold dL;rw[Qb,List.map_map];exact List.map_id' _
 have Ct:=jH hr;have ago:((dL g p aa p.ah.length).map (·.1)).Sublist p.ah:=by rw[aiy];exact List.filter_sublist
 have nJ:∀ f∈dL g p aa p.ah.length,∀ f'∈dL g p aa p.ah.length,∀ y,y∈f.2->y∈f'.2->f.1=f'.1:=by
  intro f hf f' xX y hy hy';have h3:=(fK hf).2.2;have h3':=(fK xX).2.2;rw[h3] at hy;rw[h3'] at hy';obtain⟨m,hm,Po⟩:=(T9 f hf).aa hy;obtain⟨m',Za,am5⟩:=(T9 f' xX).aa hy';have:=hm.one Za;subst this;have dm:=Po.symm.trans am5;have h1:=hle f hf f'.1 (by rw[h3];exact dm.mem_iff.2 (by simp));have h2:=hle f' xX f.1 (by rw[h3'];exact dm.mem_iff.1 (by simp));omega
 refine⟨⟨λc hc=>?_,?_⟩,λx hx=>?_,λf hf=>⟨_,(fK hf).2.2⟩,ago,λf hf=>?_,λx hx=>?_⟩
 ·obtain⟨f,hf,rfl⟩:=Qe.1 hc
  rw[(fK hf).2.2];exact (T9 f hf).ring
 ·rw[iD]
  refine⟨λl hl=>?_,?_⟩
  ·obtain⟨f,hf,rfl⟩:=Qe.1 hl
   rw[(fK hf).2.2];exact (T9 f hf).nodup
  rw[List.pairwise_map];have hkp:(dL g p aa p.ah.length).Pairwise λa b=>a.1<b.1:=by
   grind
  refine hkp.imp_of_mem ?_;intro a b ha hb qD x hx y hy e
  grind
 ·obtain⟨c,hc,AS⟩:=Qc.1 hx
  obtain⟨f,hf,rfl⟩:=Qe.1 hc;rw[(fK hf).2.2] at AS;exact (T9 f hf).sub x AS
 ·obtain⟨a,b,e⟩:=List.append_of_mem (fK hf).1
  refine⟨a,b,e,λy hy ha=>?_⟩;have h1:=hle f hf y hy;rw[e] at Ct;have:=(List.pairwise_append.1 Ct).2.2 y ha f.1 (by simp);omega
 obtain⟨l,hl⟩:=Fm hp ht hx;obtain⟨d,hd,JZ⟩:=exists_least (l:=x :: l) (by simp);obtain⟨m,hm,Po⟩:=hl.aa hd;have xA:=hl.sub d hd;have e:=(z8 hp ht xA).one hm;have hma:rG g p aa d=true:=by
  unfold rG;rw[Ql,e];intro y hy;have h1:=JZ y (Po.mem_iff.1 (by simp[hy]));have h2:d≠y:=λq=>(Qd.1 hm.nodup).1 (q ▸ hy);simp;omega
 refine Qc.2 ⟨d :: pO g p aa d,Qe.2 ⟨(d,d :: pO g p aa d),Qe.2 ⟨d,List.mem_filter.2 ⟨by grind,hma⟩,rfl⟩,rfl⟩,?_⟩
 grind
theorem sE {aa:List (List Int)} (hr:p.err g=0) (ht:aK g p aa):cK aa p.v++dL g p aa p.ah.length=bZ g p aa :=
 ((zw (Pt.ax hr) (bK (Pt.aF hr).2.2.1) ht).walks (Pt.ax hr)).eq hr
def aE (g:Gr) (p:Pt) (v:Int):List Int:=p.ah.filter λd=>decide (g.tail d=v)
def bQ (g:Gr) (p:Pt) (v:Int) (k:Nat):List Int:=(p.ah.take k).filter λd=>decide (g.tail d=v)
theorem nt (g:Gr) (p:Pt) (v:Int):bQ g p v 0=[]:=by simp[bQ]
theorem lN (g:Gr) (p:Pt) (v:Int):bQ g p v p.ah.length=aE g p v:=by grind [bQ,aE]
theorem nX (hk:k<p.ah.length):bQ g p v (k+1)=if g.tail (p.ah.getD k 0)=v then bQ g p v k++[p.ah.getD k 0] else bQ g p v k:=by
 all_goals grind [bQ,mV]
theorem iJ (g:Gr) (p:Pt) (v:Int) (k:Nat):(bQ g p v k).length<=k :=
 Qj (List.length_filter_le _ _) (by rw[Qk];omega)
theorem aX:d∈aE g p v↔d∈p.ah/\g.tail d=v:=by simp[aE]
theorem dZ (h:p.e.Nodup) (v:Int):(aE g p v).Nodup:=(cV h).filter _
theorem lB (hi:i<p.e.length) (s:Nat) (hs:s<2):p.ah.getD (2*i+s) 0=2*p.e.getD i 0+s:=by
 obtain⟨v,e⟩:=p;unfold Pt.ah;dsimp only at hi ⊢
 induction e generalizing i with
 | nil=>simp at hi
 | cons a l ih =>
  rw[List.flatMap_cons];cases i with
  | zero=>rcases (show s=0\/s=1 by omega) with rfl | rfl <;> simp[Qg]
  | succ i =>
   grind
def rK (g:Gr) (p:Pt) (aa:List (List Int)) (v:Int):Prop:=(aE g p v).length=(ay aa v).length/\(ay aa v).Nodup/\∀ d∈aE g p v,d∈ay aa v
theorem G8 (hl:l.Nodup) (h:∀ x∈l,x∈m) (hlen:l.length=m.length):∀ x∈m,x∈l:=by
 intro x hx;refine Classical.byContradiction λq=>?_;have h1:=bY (l:=x :: l) (m:=m) (Qd.2 ⟨q,hl⟩) (λy hy=>by grind)
 grind
theorem aK.rK {g:Gr} {p:Pt} {aa:List (List Int)} (hp:aD g p) (h:aK g p aa) {v:Int} (h0:0<=v) (hn:v<g.n):rK g p aa v:=by
 have hm:∀ d,d∈aE g p v↔d∈ay aa v:=λd=>by rw[aX,h.mem v h0 hn]
 exact⟨((List.perm_ext_iff_of_nodup (dZ hp.en v) (h.nodup v)).2 hm).length_eq,h.nodup v,λd hd=>(hm d).1 hd⟩
theorem AZ {aa:List (List Int)} (hp:aD g p) (hl:(aa.length:Int)=g.n) (h:∀ v:Nat,(v:Int)<g.n->Plain.rK g p aa v):aK g p aa:=by
 have aT:∀ v:Int,0<=v->v<g.n->Plain.rK g p aa v:=λv h0 hn=>by
  have:=h v.toNat (by omega)
  grind
 refine⟨hl,λv=>?_,λv h0 hn d=>?_⟩
 ·by_cases h1:v.toNat<aa.length
  ·have:=(aT (v.toNat:Nat) (by omega) (by omega)).2.1
   grind [ay]
  all_goals grind [ay]
 obtain⟨h1,-,h3⟩:=aT v h0 hn;rw[<-aX];exact⟨λhd=>G8 (dZ hp.en v) h3 h1 d hd,h3 d⟩
theorem Pt.gS (h:p.err g=0) (he:e∈p.e):0<=e/\e<g.e.length:=by
 obtain⟨i,hi,rfl⟩:=cr he;have:=cG (Pt.aF h).2.2.1 hi
 grind
theorem Pt.pd (h:p.err g=0) (hd:d∈p.ah):∃ n:Nat,d=n/\n / 2<g.e.length/\n<2048:=by
 have h1:=gS h (au.1 hd);have h2:=Gr.aF (Pt.aF h).1;exact⟨d.toNat,by omega,by omega,by omega⟩
theorem FX {aa:List (List Int)} (h:p.err g=0) (hl:(aa.length:Int)≠g.n):cJ g p aa=5:=lQ h λk=>hl k.len
theorem G9 {aa:List (List Int)} (h:p.err g=0) {v:Nat} (hv:(v:Int)<g.n) (hr:¬ Plain.rK g p aa v):cJ g p aa=5:=lQ h λk=>hr (k.rK (Pt.ax h) (by omega) hv)
end Go.Proofs.YtoiflofhcmjpoaaGreat.Plain
namespace Go.Proofs.YtoiflofhcmjpoaaGreat
open Plain
open Go.RowKit Go.Maps
variable {w:World} {B n i tc:Nat} {k:Int} {l:List Int} {ao Y2:Option Addr}
theorem pP (hB:B<=w.heap.size) (hk:bF k):aw (w.alloc (.cells #[.int .i64 k] 3)) B (.slice (some ⟨w.heap.size,0,none⟩) 1 1) [k] :=
 ⟨World.ownsRow_lit w #[.int .i64 k] 1 hB (by decide) rfl,by simpa using hk,by simp⟩
theorem eN {ops:Array Oper} {rest:List Oper} {o:Oper} {a:Act} {Q:Exit->Act->World->Prop} {w0:World} (hg:o.guard=none) (s x:Operand) (ho:o.op=.call { callee:=.builtin .append,args:=#[s,x],argTypes:=#[25,25] })
  {v:Value} (hs:a.eval s=v) (hx:a.eval x=.slice (some ⟨w0.heap.size,0,none⟩) 1 1) (h:aw w0 B v l) (hk:bF k) (hB:B<=w0.heap.size) (hn:l.length<4294967290) (hw:w=w0.alloc (.cells #[.int .i64 k] 3))
  (hK:∀ v' w',aw w' B v' (l++[k])->ai (aC v) w0 w'->(∀ b∈aC v',b∈aC v\/w0.heap.size<=b)->wpList Tryz.prog ops Q rest (a.put o.dst v') w'):wpList Tryz.prog ops Q (o :: rest) a w:=by
 subst hw;have hc:=(ai.refl [] w0).alloc (.cells #[.int .i64 k] 3);refine aaQ hg s x ho hs hx (h.aL hc (by simp)) (pP (B:=w0.heap.size) (Nat.le_refl _) hk) (Qj hB hc.size) (by simp;omega) λv' w' r1 r2 r3=>hK v' w' r1 ((hc.mono (by simp)).trans r2 λj hj=>Or.inl hj) λb hb=>(r3 b hb).imp id λq=>Qj hc.size q
theorem aI.cellAt {c:Nat} (h:aI w (.slice ao n c) l) (hi:i<l.length):∃ b off,ao=some ⟨b,off,none⟩/\w.cell? ⟨b,off+i,none⟩=some (.int .i64 (l.getD i 0)):=by
 obtain⟨ao',c',e',-,-,h⟩:=h;simp only[Qo.injEq] at e';obtain⟨rfl,-,rfl⟩:=e';obtain⟨b,off,rfl,h2⟩:=h (by grind)
 grind
theorem fY.row {ll:List (List Int)} (h:fY w (.slice Y2 n tc) ll) {k:Nat} (hk:k<ll.length):∃ b off uo uc,Y2=some ⟨b,off,none⟩/\w.cell? ⟨b,off+k,none⟩=some (.slice uo (ll.getD k []).length uc)/\aI w (.slice uo (ll.getD k []).length uc) (ll.getD k []):=by
 obtain⟨ao,cap,e,-,h2⟩:=h;simp only[Qo.injEq] at e;obtain⟨rfl,rfl,rfl⟩:=e;obtain⟨b,off,u,rfl,h3,-,h5⟩:=h2 k hk;have h6:=h5;obtain⟨uo,uc,rfl,-⟩:=h5
 grind
theorem da (w:World) (B:Nat):aw w B (.slice none 0 0) []:=⟨World.ownsRow_nil _ _ _ _,by simp,by simp⟩
end Go.Proofs.YtoiflofhcmjpoaaGreat
-- READS ONLY
namespace Go.Proofs.YtoiflofhcmjpoaaGreat
open Plain
open Go.RowKit Go.Maps
theorem ng (vg vp:Value) (g:Plain.Gr) (p:Plain.Pt) (v:Int) (w:World) (hE:p.e.length<=1000000) (hr:p.err g=0) (hg:cA w vg g) (hp:dt w vp p) :
  Calls Tryz.prog 62 #[vg,vp,.int .i64 v] w λe w'=>∃ ov,e=.returned ov/\aw w' w.heap.size ov (Plain.aE g p v)/\ai [] w w':=by
 have sJ:=lh (Plain.Pt.aF hr).2.2.1;have fB:=lh (Plain.Gr.aF (Plain.Pt.aF hr).1);have E6:=ct p;have HDA:=lh (Plain.lN g p v);rw[E6] at HDA;have DY:=lh E6;have Xc:=lh (Plain.nt g p v);clear E6;obtain⟨eo,cap,ao,ac,bo,bc,rfl,rfl,HG,HP,hm,uJ,oJ,pU,nG,xL,uD,aY,bm⟩:=eF hg hp;clear hg hp;obtain⟨x0,x1,y0,y1,bs⟩:=bm.out _ (ai.refl _ _);clear hr;go_enter Tryz.func62,Tryz.ntmps62;go_wp2;obtain⟨w1,gu⟩:∃ w1,((w.alloc (.cells #[.int .i64 g.n,.slice eo g.e.length cap] 24)).alloc (.cells #[.slice ao p.v.length ac,.slice bo p.e.length bc] 27))=w1:=⟨_,rfl⟩;rw[gu] at aY bm ⊢;clear gu x0 x1 y0 y1 bs;have HB1:=lh aY.out.size;go_loopw [7,8] (λov c wr=>∃ k:Nat,k<=p.e.length/\c=.int .i64 k/\aw wr w1.heap.size ov (Plain.bQ g p v (2*k))/\ai [] w1 wr) (λ_ c _=>p.e.length - (intOf c).toNat);case atStart=>exact⟨0,Qf _,rfl,by rw[show 2*0=0 from rfl,Xc.out];exact da _ _,ai.refl _ _⟩
 case round =>
  obtain⟨k,hk,rfl,aT,hc⟩:=hrel;have bA:=lh aT;have HC:=lh hc;obtain⟨oo,oc,rfl⟩:=aT.shape;obtain⟨x0,x1,y0,y1,bs⟩:=bm.out wr hc;by_cases aW:k<p.e.length
  ·obtain⟨bb,eO,rfl,oG⟩:=nG.out (by grind)
   have HCK:=lh (aY.out.bO (oG k aW));have AF:=Plain.cG sJ.out aW;obtain⟨ei,mN⟩:∃ ei:Nat,p.e.getD k 0=(ei:Int):=⟨(p.e.getD k 0).toNat,by omega⟩;have qO:=lh (λs (hs:s<2)=>(show Plain.bQ g p v (2*k+s+1)=if g.tail ((2*ei+s:Nat):Int)=v then Plain.bQ g p v (2*k+s)++[((2*ei+s:Nat):Int)] else Plain.bQ g p v (2*k+s) by
    rw[Plain.nX (by rw[DY.out];omega),Plain.lB aW s hs,mN]
    grind))
   rw[mN] at HCK AF;have xl:ei<g.e.length:=by omega
   have wE:g.e.length<4294967296:=by have:=fB.out.2.2.1;have:=fB.out.1;omega
   have Xx:g.e.length<=1024:=by have:=fB.out.2.2.1;have:=fB.out.1;omega
   have w2e:IntKind.i64.wrap (2*(ei:Int))=2*(ei:Int):=IntWalk.i64_in _ (by omega);clear oG AF aT hc;go_wp2;go_loopw [7,9] (λov c wi=>∃ s:Nat,s<=2/\c=.int .i64 s/\aw wi w1.heap.size ov (Plain.bQ g p v (2*k+s))/\ai [] w1 wi) (λ_ c _=>2 - (intOf c).toNat);case atStart=>exact⟨0,by omega,rfl,bA.out,HC.out⟩
   case round =>
    rename World=>wi;obtain⟨s,hs,rfl,aT,hc⟩:=hrel;have bA:=lh aT;have HC:=lh hc;obtain⟨oo,oc,rfl⟩:=aT.shape;obtain⟨x0,x1,y0,y1,bs⟩:=bm.out wi hc;have ck:=hc.bO HCK.out;clear aT hc;by_cases Pd:s<2
    ·have HN:=lh (qO.out s Pd)
     have wad:IntKind.i64.wrap (2*(ei:Int)+(s:Int))=((2*ei+s:Nat):Int):=by rw[IntWalk.i64_in _ (by omega)];omega
     have arz:=Plain.iJ g p v (2*k+s);have YE:=lh (show bF ((2*ei+s:Nat):Int) from bF.mk (by omega) (by omega));obtain⟨d,hd⟩:∃ d,2*ei+s=d:=⟨_,rfl⟩;rw[hd] at HN wad YE;have oF:d / 2<g.e.length:=by omega
     clear hd;go_wp2;have aG:ai [] wi wi.drew:=(ai.refl [] wi).drew;refine al (ai [] wi) [0,1,2,3,4,5,6,7,8,10,11] (Way.line [0,1,2,3,4,5,6,7,8,10,9,11] .done) (by kernel_rfl) (by kernel_rfl) ?_;simp only[Way.line]
     repeat (refine aj (v:=?_) rfl (by rfl) (by rfl) (λ_ _ _ h=>h) aG (λw' aB=>?_) ?_;rotate_left;(focus (have fE:=aB.c x0;have fV:=aB.c x1;have kD:=aB.c y0;have tq:=aB.c y1;have MD:=aB.c ck;clear aB;go_simp;try with_reducible rfl));simp only[Qi,Z1,Z2,Z3,Z4,Z5,Z6])
     refine aq rfl (by rfl) (by rfl) (λK hK=>?_);go_simp;refine (Av _ g d _ oF wE (HG.out.fresh (aY.out.tr (HC.out.tr aG)))).mono ?_;rintro e w3 ⟨rfl,eV⟩;have bH:=aG.t eV;clear aG eV;have aG:=bH;clear bH;refine hK.out _ _ (λ_=>aG) ?_;clear hK K;try simp only[Qi,Z1,Z2,Z3,Z4,Z5,Z6]
     repeat (refine aj (v:=?_) rfl (by rfl) (by rfl) (λ_ _ _ h=>h) aG (λw' aB=>?_) ?_;rotate_left;(focus (have fE:=aB.c x0;have fV:=aB.c x1;have kD:=aB.c y0;have tq:=aB.c y1;have MD:=aB.c ck;clear aB;go_simp;try with_reducible rfl));simp only[Qi,Z1,Z2,Z3,Z4,Z5,Z6])
     refine ar ?_;have b8:=lh (HC.out.tr aG);have zc:=lh (bA.out.aL aG (by simp));clear x0 x1 y0 y1 bs ck aG;obtain⟨x0,x1,y0,y1,bs⟩:=bm.out w3 b8.out;have ck:=b8.out.bO HCK.out;by_cases ht:g.tail (d:Int)=v
     ·have HE:=lh (HN.out.trans (if_pos ht))
      have b1:(g.tail (d:Int)==v)=true:=by grind
      have wK:=lh (show w1.heap.size<=w3.heap.size from b8.out.size);clear ht;go_wp2_with (at_builtin;refine eN rfl _ _ rfl (B:=w1.heap.size) (v:=.slice oo _ oc) rfl rfl zc.out YE.out wK.out (by omega) rfl ?_;intro v6 w6 r6 c6 f6;have R6:=lh r6;have C6:=lh c6;clear r6 c6 f6);go_roundw;case rel=>exact⟨s+1,by omega,by go_num,by rw[<-Qn,HE.out];exact R6.out,b8.out.trans C6.out (λj hj=>Or.inr (by rw[zc.out.aC] at hj;exact (zc.out.low j hj).1))⟩
      case measure=>simp[intOf];omega
     have HE:=lh (HN.out.trans (if_neg ht));have b1:(g.tail (d:Int)==v)=false:=by grind
     clear ht;go_wp2;go_roundw;case rel=>exact⟨s+1,by omega,by go_num,by rw[<-Qn,HE.out];exact zc.out,b8.out⟩
     case measure=>simp[intOf];omega
    have e:s=2:=by omega
    subst e;clear ck;go_wp2;go_roundw;case rel=>exact⟨k+1,by omega,by go_num,bA.out,HC.out⟩
    case measure=>simp[intOf];omega
  have e:k=p.e.length:=by omega
  subst e;have HR:=lh (bA.out.base HB1.out);rw[HDA.out] at HR ⊢;have gU:=lh (aY.out.tr HC.out);clear aT hc x0 x1;obtain⟨rn,Bw⟩:∃ rn,(Plain.aE g p v).length=rn:=⟨_,rfl⟩;rw[Bw] at HR ⊢;clear Bw;go_wp2;go_ret;exact⟨_,rfl,HR.out,gU.out⟩
end Go.Proofs.YtoiflofhcmjpoaaGreat
-- READS ONLY
namespace Go.Proofs.YtoiflofhcmjpoaaGreat
open Plain
open Go.RowKit Go.Maps
theorem GO (vg vp vt:Value) (g:Plain.Gr) (p:Plain.Pt) (aa:List (List Int)) (w:World) (mE:p.e.length<=1000000) (Dl:p.v.length<=1000000) (EX:g.e.length<4294967296) (hg:cA w vg g) (hp:dt w vp p) (ht:fY w vt aa) :
  Calls Tryz.prog 120 #[vg,vp,vt] w λe w'=>e=.returned (.int .i64 (Plain.cJ g p aa))/\ai [] w w':=by
 have HT:=lh ht;obtain⟨eo,cap,ao,ac,bo,bc,rfl,rfl,HG,HP,hm,uJ,oJ,pU,nG,xL,uD,aY,bm⟩:=eF hg hp;clear hg hp;obtain⟨Y2,tc,rfl,Aw,-⟩:=ht;obtain⟨x0,x1,y0,y1,bs⟩:=bm.out _ (ai.refl _ _);go_enter Tryz.func120,Tryz.ntmps120;go_wp2_with fail;refine (wD _ _ g p _ (by omega) (by omega) EX (HG.out.fresh aY.out) (HP.out.fresh aY.out)).mono ?_;rintro e w2 ⟨rfl,bI⟩;obtain⟨w1,gu⟩:∃ w1,((w.alloc (.cells #[.int .i64 g.n,.slice eo g.e.length cap] 24)).alloc (.cells #[.slice ao p.v.length ac,.slice bo p.e.length bc] 27))=w1:=⟨_,rfl⟩;rw[gu] at aY bm bI;clear gu x0 x1 y0 y1 bs;have bU:=lh bI;have Zl:=lh (HT.out.fresh aY.out);obtain⟨x0,x1,y0,y1,bs⟩:=bm.out w2 bI;clear bI;by_cases dk:p.err g=0
 ·rw[dk]
  have uu:=lh dk;have Ip:=lh (Plain.Pt.ax dk);have fB:=lh (Plain.Gr.aF (Plain.Pt.aF dk).1);clear dk;by_cases hl:(aa.length:Int)=g.n
  ·have hgn:g.n<=1024:=fB.out.2.1
   have HL:=lh hl;have b1:((aa.length:Int) != g.n)=false:=by rw[hl];simp
   clear hl;go_wp2;go_loopw [8] (λc wr=>∃ k:Nat,k<=aa.length/\c=.int .i64 k/\Hid (∀ i,i<k->Plain.rK g p aa (i:Nat))/\ai [] w1 wr) (λc _=>aa.length - (intOf c).toNat);case atStart=>exact⟨0,Qf _,rfl,lh (λi hi=>by omega),bU.out⟩
   case round =>
    obtain⟨k,hk,rfl,cX,hc⟩:=hrel;have HC:=lh hc;obtain⟨x0,x1,y0,y1,bs⟩:=bm.out wr hc;clear hc;by_cases aW:k<aa.length
    ·have bk:decide ((k:Int)<g.n)=true:=decide_eq_true (by grind)
     have Ux:=lh (λh=>Plain.G9 (g:=g) (p:=p) (aa:=aa) uu.out (v:=k) (by grind) h);have Wz:=lh (show Plain.rK g p aa (k:Nat)↔(Plain.aE g p k).length=(aa.getD k []).length/\(aa.getD k []).Nodup/\∀ d∈Plain.aE g p k,d∈aa.getD k [] by unfold Plain.rK Plain.ay;rw[Int.toNat_natCast]);obtain⟨tb,agT,uo,uc,rfl,aS,aT⟩:=Zl.out.row aW;have HTC:=lh aS;have bA:=lh aT;obtain⟨T,hT⟩:∃ T,aa.getD k []=T:=⟨_,rfl⟩;rw[hT] at Wz HTC bA;clear aS aT hT;go_wp2_with fail;refine (ng _ _ g p k _ mE uu.out ((HG.out.fresh aY.out).fresh HC.out) ((HP.out.fresh aY.out).fresh HC.out)).mono ?_;rintro e w3 ⟨ov,rfl,hov,dK⟩;obtain⟨oo,oc,rfl⟩:=hov.shape;have Mv:=lh hov.ints;have b8:=lh (HC.out.tr dK);clear x0 x1 y0 y1 bs hov dK;obtain⟨x0,x1,y0,y1,bs⟩:=bm.out w3 b8.out;have j6:=b8.out.bO HTC.out;have hDl:(Plain.aE g p k).length<=2000000:=by
      rw[<-Plain.lN]
      grind [Plain.iJ,ct]
     obtain⟨D,hD⟩:∃ D,Plain.aE g p k=D:=⟨_,rfl⟩;rw[hD] at Wz Mv hDl ⊢;clear hD;by_cases h1:(D.length:Int)=(T.length:Int)
     ·have b2:((D.length:Int) != (T.length:Int))=false:=by simp[h1]
      have H1:=lh h1;clear h1;go_wp2_with fail;refine (GK _ T _ (bA.out.fresh b8.out)).mono ?_;rintro e w4 ⟨rfl,gX⟩;have eW:=lh (b8.out.tr gX);have alH:=lh gX;clear x0 x1 y0 y1 bs j6 gX;by_cases h2:T.Nodup
      ·rw[decide_eq_true h2]
       have H2:=lh h2;clear h2;go_wp2;go_loopw [10] (λc wi=>∃ i:Nat,i<=D.length/\c=.int .i64 i/\Hid (∀ d∈D.take i,d∈T)/\ai [] w4 wi) (λc _=>D.length - (intOf c).toNat);case atStart=>exact⟨0,Qf _,rfl,lh (by simp),ai.refl _ _⟩
       case round =>
        rename World=>wi;obtain⟨i,hi,rfl,dE,dV⟩:=hrel;have fG:=lh (eW.out.tr dV);have abS:=lh dV;by_cases lK:i<D.length
        ·obtain⟨db,awu,rfl,Lo⟩:=aI.cellAt (Mv.out.fresh (alH.out.tr dV)) lK
         have j6:=fG.out.bO HTC.out;have uH:=lh (Plain.mV lK);have pA:=lh ((show D.getD i 0∈D by grind));obtain⟨z,hz⟩:∃ z,D.getD i 0=z:=⟨_,rfl⟩;rw[hz] at Lo uH pA;clear hz dV;go_wp2;have aG:ai [] wi wi.drew:=(ai.refl [] wi).drew;refine al (ai [] wi) [0,1,2,3,4,5,6,7,9] (Way.line [0,1,2,3,4,5,6,7,8,9] .done) (by kernel_rfl) (by kernel_rfl) ?_;simp only[Way.line]
         repeat (refine aj (v:=?_) rfl (by rfl) (by rfl) (λ_ _ _ h=>h) aG (λw' aB=>?_) ?_;rotate_left;(focus (have fE:=aB.c j6;have fV:=aB.c Lo;clear aB;go_simp;try with_reducible rfl));simp only[Qi,Z1,Z2,Z3,Z4,Z5,Z6])
         refine aq rfl (by rfl) (by rfl) (λK hK=>?_);go_simp;refine (iY _ T z _ (bA.out.fresh (fG.out.tr aG))).mono ?_;rintro e w6 ⟨rfl,eV⟩;have bH:=aG.t eV;clear aG eV;have aG:=bH;clear bH;refine hK.out _ _ (λ_=>aG) ?_;clear hK K;try simp only[Qi,Z1,Z2,Z3,Z4,Z5,Z6]
         repeat (refine aj (v:=?_) rfl (by rfl) (by rfl) (λ_ _ _ h=>h) aG (λw' aB=>?_) ?_;rotate_left;(focus (have fE:=aB.c j6;have fV:=aB.c Lo;clear aB;go_simp;try with_reducible rfl));simp only[Qi,Z1,Z2,Z3,Z4,Z5,Z6])
         refine ar ?_;have fC:=lh (fG.out.tr aG);have alj:=lh ((show ai [] w4 wi from abS.out).tr aG);clear j6 Lo aG;by_cases XM:z∈T
         ·rw[decide_eq_true XM]
          have HN:=lh (show ∀ d∈D.take (i+1),d∈T from λd hd=>by
           rw[uH.out,Qm] at hd;rcases hd with q | q
           ·exact dE.out d q
           all_goals grind)
          clear XM;go_wp2;go_roundw;case rel=>exact⟨i+1,by omega,by go_num,HN,alj.out⟩
          case measure=>simp[intOf];omega
         rw[decide_eq_false XM];have HE:=lh (Ux.out λh=>XM ((Wz.out.1 h).2.2 z pA.out));have gU:=lh (aY.out.tr fC.out);clear XM;go_wp2;go_ret;exact⟨aR HE.out.symm,gU.out⟩
        have e:i=D.length:=by omega
        subst e;have HN:=lh (show ∀ i,i<k+1->Plain.rK g p aa (i:Nat) from λi hi=>by
         by_cases e:i=k
         ·rw[e]
          exact Wz.out.2 ⟨by grind,H2.out,by have:=dE.out;rwa[Qb] at this⟩
         exact cX.out i (by omega))
        clear dV;go_wp2;go_roundw;case rel=>exact⟨k+1,by omega,by go_num,HN,fG.out⟩
        case measure=>simp[intOf];omega
      rw[decide_eq_false h2];have HE:=lh (Ux.out λh=>h2 (Wz.out.1 h).2.1);have gU:=lh (aY.out.tr eW.out);clear h2;go_wp2;go_ret;exact⟨aR HE.out.symm,gU.out⟩
     have b2:((D.length:Int) != (T.length:Int))=true:=by simp only[bne_iff_ne];exact h1
     have HE:=lh (Ux.out λh=>h1 (by have:=(Wz.out.1 h).1;omega));have gU:=lh (aY.out.tr b8.out);clear h1;go_wp2;go_ret;exact⟨aR HE.out.symm,gU.out⟩
    have bk:decide ((k:Int)<g.n)=false:=decide_eq_false (by grind);have e:k=aa.length:=by omega
    subst e;have HE:=lh (yL uu.out (Plain.AZ Ip.out HL.out λv hv=>cX.out v (by grind)));have gU:=lh (aY.out.tr HC.out);go_wp2;go_ret;exact⟨aR HE.out.symm,gU.out⟩
  have HE:=lh (Plain.FX (aa:=aa) uu.out hl);have b1:((aa.length:Int) != g.n)=true:=by simp only[bne_iff_ne];exact hl
  have gU:=lh (aY.out.tr bU.out);clear hl;go_wp2;go_ret;exact⟨aR HE.out.symm,gU.out⟩
 have HE:=lh (nK (aa:=aa) dk);have b1:((p.err g) != 0)=true:=by simp only[bne_iff_ne];exact dk
 have gU:=lh (aY.out.tr bU.out);clear dk;generalize p.err g=er at *;go_wp2;go_ret;exact⟨aR HE.out.symm,gU.out⟩
