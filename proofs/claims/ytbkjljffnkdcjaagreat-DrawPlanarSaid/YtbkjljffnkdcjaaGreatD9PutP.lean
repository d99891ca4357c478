/- What holds where draw's put is called, in plain words. No program here. -/
import Derived.Test.YtbkjljffnkdcjaaGreatD9RingOk
open List renaming length_append→Qa,length_take→Qb,length_drop→Qc,getD→Qd,getElem?_eq_getElem→Qe,take_append_of_le_length→Qf,length_map→Qi,eraseIdx_eq_take_drop_succ→Qj,getElem?_drop→Qm,set_cons_zero→Qn,getElem?_append_right→Qo,length_eraseIdx_of_lt→Qp,getElem?_append_left→Qq,getElem?_eq_some_iff→Qr,idxOf_lt_length_iff→Qt,length_cons→Qu,take_length→Qv,not_of_lt_findIdx→Qx,take_of_length_le→Qy,eq_nil_or_concat→QA,concat_eq_append→QB,take_take→QD,length_pos_iff→QE,range→QF,getElem?_take→QG,set_cons_succ→QH,mem_singleton→QI,mem_map→QK,nodup_append→QL,length_range→QN,append_assoc→QO,range_succ→QQ,map_append→QR,filter_nil→QS,nil_append→QT,length_set→QU,replicate→QW,map_cons→QX,mem_cons→QY,map_nil→Q0,map→Q6
open Array renaming getElem?_eq_getElem→Qg,length_toList→Qh
open Go.Value renaming int→Qk,slice→Q7
open Option renaming getD_some→Ql,some→QP
open Bool renaming eq_false_iff→Qs
open Nat renaming zero_add→Qw,min_eq_left→Qz,le_refl→QC,add_comm→QZ,le_of_lt→Q3,sub_self→Q4
open Go.Act renaming put→QJ
open Int renaming toNat_natCast→QM
open Or renaming inr→QV,inl→Q8
namespace Go.Proofs.YtbkjljffnkdcjaaGreat.Plain
structure ael (g:Gr) (b:Pt) (s:Sk) (c:bj) (N a z f:Nat) (w old:List Int):Prop where
 a0:c.ends.getD 0 0=a
 aN:a<N
 aV:(a:Int)∈b.v
 el:2<=c.ends.length/\c.ends.length<=1024
 part:aH g ⟨b.v,c.ah⟩
 ah:∀ e∈c.ah,0<=e/\e<g.e.length
 Ji:c.ah.length<=1024
 uG:l5 g s.on ⟨b.v,c.ah⟩ a=w
 wne:w≠[]
 wd:∀ d∈w,0<=d/\d / 2<g.e.length
 wl:w.length<=1024
 z0:g.head (w.getLastD 0)=z
 zN:z<N
 f0:c.aj.getD 0 0=f
 fF:f<s.aj.length
 fl:0<c.aj.length/\c.aj.length<=2050
 V2:s.aj.getD f []=old
 oa:∃ x∈old,g.tail x=a
 oz:∃ x∈old,g.tail x=z
 od:∀ d∈old,0<=d/\d / 2<g.e.length
 ol:old.length<=2048
 Fl:s.aj.length<=2050
 rest:∀ r∈s.rest,(∀ v∈r.ends,0<=v/\v<N)/\r.ends.length<=1024/\r.aj.length<=2050
 rl:s.rest.length<=1024
theorem nb {α β:Type} {f:α->List β}:∀ {l:List α},(∀ x∈l,f x≠[])->l.length<=(l.flatMap f).length
 | [],_=>by simp
 | x :: l,h=>by
  have ih:=nb (f:=f) (l:=l) fun y hy=>h y (List.mem_cons_of_mem _ hy);have:=QE.2 (h x (by simp));rw[List.flatMap_cons,Qa,Qu];omega
theorem il {l:List Int} {N:Nat} (hn:l.Nodup) (h:∀ u∈l,0<=u/\u<N):l.length<=N:=by
 have:=bQ (l:=l) (m:=(QF N).map fun n:Nat=>(n:Int)) hn fun x hx=>by
  have:=h x hx;exact QK.2 ⟨x.toNat,List.mem_range.2 (by omega),by omega⟩
 simpa using this
theorem LP {g:Gr} {b:Pt} {s:Sk} {p:Pt} {aa:List (List Int)} {i N:Nat} (lM:b.err g=0) (hN:g.n=N) (h:rD g b s p aa) (hi:i<s.rest.length) (hf:(s.rest.getD i ⟨[],[],[]⟩).aj≠[]) :
  ∃ a z f w old,ael g b s (s.rest.getD i ⟨[],[],[]⟩) N a z f w old:=by
 have iM:=Pt.aF lM;have ig:=Pt.aF h.aj.pe;obtain⟨zt,-,Kv,-⟩:=Pt.aP lM;obtain⟨hn0,y8,gL,-⟩:=Gr.aP zt;have iQ:=h.part;have JJ:∀ e∈p.e,e∈b.e:=fun e he=>iQ.mem_iff.1 (List.mem_append_left _ he);have hbd:∀ e∈b.e,0<=e/\e<g.e.length:=fun e he=>by
  obtain⟨i,hi,rfl⟩:=bO he;have:=ct Kv hi;exact⟨by omega,by omega⟩
 have fT:b.e.length<=1024:=by
  have:=il iM.en hbd;omega
 have pO:=bQ ig.en JJ;have YS:=h.aj.pZ;have VB:s.aj.length<=1026:=by omega
 have lN:s.rest.getD i ⟨[],[],[]⟩∈s.rest:=by simp[Qd,hi]
 have I5:∀ r∈s.rest,∀ e∈r.ah,0<=e/\e<g.e.length:=fun r hr e he=>hbd e ((h.lV r hr).sub e he);have jW:∀ v,s.on v=true->0<=v/\v<N:=fun v hv=>by
  have:=iM.vr v (h.sub v ((h.on v).1 hv));omega
 have dm:∀ r∈s.rest,∀ v∈r.ends,0<=v/\v<N:=fun r hr v hv=>by
  rw[(h.lV r hr).ends] at hv;exact jW v (bs.1 hv).1
 have VU:∀ r∈s.rest,r.ends.length<=1024:=fun r hr=>by
  have h1:r.ends.Nodup:=by rw[(h.lV r hr).ends];exact gd _ _ _
  have:=il h1 (dm r hr);omega
 have ad1:∀ r∈s.rest,r.aj.length<=2050:=fun r hr=>by
  have h1:=h.lV r hr;have:=il (N:=s.aj.length) h1.fnd fun u hu=>by
   have:=(h1.Ns u).1 hu;exact⟨by omega,by omega⟩
  omega
 have Cq:s.rest.length<=1024:=by
  have h1:=nb (f:=fun c:bj=>c.ah) (l:=s.rest) fun r hr=>by
   have h2:=(h.lV r hr).two;obtain⟨v,hv⟩:=List.exists_mem_of_length_pos (l:=r.ends) (by omega);rw[(h.lV r hr).ends] at hv;obtain⟨-,e,he,-⟩:=bs.1 hv;exact List.ne_nil_of_mem he
  have h2:=iQ.length_eq;rw[Qa] at h2;omega
 obtain⟨Sq,-⟩:=kH hi (⟨[],[],[]⟩:bj);generalize s.rest.getD i ⟨[],[],[]⟩=c at *;have hc:=h.lV c lN;have VN:c.ah.Sublist (s.rest.flatMap (·.ah)):=by
  rw[List.flatMap_def];exact List.sublist_flatten_of_mem (QK.2 ⟨c,lN,rfl⟩)
 have fs:=(iQ.nodup_iff).2 iM.en;have oY:c.ah.Nodup:=VN.nodup (QL.1 fs).2.1;have KJ:∀ e∈c.ah,e ∉ p.e:=fun e h1 h2=>(QL.1 fs).2.2 e h2 e (VN.subset h1) rfl;have Zy:aH g ⟨b.v,c.ah⟩:=⟨iM.vn,oY,iM.vr,fun e he=>iM.er e (hc.sub e he),fun e he=>iM.ends e (hc.sub e he)⟩;obtain⟨a,z0,m,iF⟩:∃ a z0 m,c.ends=a :: z0 :: m:=by
  have:=hc.two
  match hL:c.ends with
  | []=>rw[hL] at this;simp at this
  | [_]=>rw[hL] at this;simp at this
  | a :: z0 :: m=>exact⟨a,z0,m,rfl⟩
 have kQ:(a :: z0 :: m).Nodup:=by rw[<-iF,hc.ends];exact gd g s.on c.ah
 have Nn:a∈c.ends:=by rw[iF];simp
 have Wy:z0∈c.ends:=by rw[iF];simp
 have Bw:=Nn;have jZ:=Wy;rw[hc.ends] at Bw jZ;obtain⟨RU,e0,mn,Jw⟩:=bs.1 Bw;obtain⟨M7,e1,uF,Fi⟩:=bs.1 jZ;have M0:z0≠a:=fun q=>by rw[q] at kQ;simp at kQ
 have qL:∀ d∈(⟨b.v,c.ah⟩:Pt).ag,0<=d:=fun d hd=>by have:=iM.er _ (hc.sub _ (aw.1 hd));omega
 obtain⟨z,pr⟩:=yw (g:=g) (on:=s.on) Zy qL hc.qa mn Jw uF Fi M7 M0;have Tj:c.ends.getD 0 0=a:=by rw[iF];rfl
 have haN:=dm c lN a Nn;obtain⟨w,hw0⟩:∃ w,l5 g s.on ⟨b.v,c.ah⟩ a=w:=⟨_,rfl⟩;rw[hw0] at pr;have Di:=pr.uG h.on RU KJ;have yY:w≠[]:=fun q=>pr.ne (by have:=pr.link;rw[q] at this;exact this);have V6:g.head (w.getLastD 0)=z:=by
  rcases QA w with r | ⟨m,e,r⟩
  ·exact absurd r yY
  rw[QB] at r;have:=pr.link;rw[r] at this ⊢;rw[List.getLastD_eq_getLast?];simpa using gx this
 have A5:∀ d∈w,d / 2∈c.ah:=fun d hd=>aw.1 (pr.sub d hd);have Ca:z∈c.ends:=by
  rcases QA w with r | ⟨m,e,r⟩
  ·exact absurd r yY
  rw[QB] at r;have h1:=pr.link;rw[r] at h1;rw[hc.ends];have h2:=et g e;rw[gx h1] at h2;exact bs.2 ⟨pr.oz,e / 2,A5 e (by rw[r];simp),h2.2⟩
 have hzN:=dm c lN z Ca;obtain⟨f,fl,As⟩:∃ f fl,c.aj=f :: fl:=by
  cases hL:c.aj with
  | nil=>exact absurd hL hf
  | cons f fl=>exact⟨f,fl,rfl⟩
 obtain⟨OL,BE,Vh⟩:=(hc.Ns f).1 (by rw[As];simp);have hom:s.aj.getD f.toNat []∈s.aj:=by simp[Qd,BE]
 have hod:∀ d∈s.aj.getD f.toNat [],d∈p.ag:=fun d hd=>h.aj.all.mem_iff.1 (List.mem_flatten.2 ⟨_,hom,hd⟩);have mj:∀ d∈p.ag,0<=d/\d / 2<g.e.length:=fun d hd=>by
  have:=hbd _ (JJ _ (aw.1 hd));exact⟨by omega,by omega⟩
 have hol:(s.aj.getD f.toNat []).length<=2048:=by
  have h1:=du (h.aj.simple _ hom);have:=il (N:=2048) h1 fun u hu=>by
   have:=mj u (hod u hu);exact⟨by omega,by omega⟩
  exact this
 refine⟨a.toNat,z.toNat,f.toNat,w,s.aj.getD f.toNat [],?_⟩;have ea:((a.toNat:Nat):Int)=a:=by omega
 have ez:((z.toNat:Nat):Int)=z:=by omega
 have ef:((f.toNat:Nat):Int)=f:=by omega
 refine⟨by rw[ea];exact Tj,by omega,by rw[ea];exact h.sub a ((h.on a).1 RU),⟨hc.two,VU c lN⟩,Zy,I5 c lN,?_,by rw[ea];exact hw0,yY,fun d hd=>?_,?_,by rw[ez];exact V6,by omega,by rw[ef,As];rfl,BE,⟨by rw[As];simp,ad1 c lN⟩,rfl,?_,?_,fun d hd=>mj d (hod d hd),hol,by omega,fun r hr=>⟨dm r hr,VU r hr,ad1 r hr⟩,Cq⟩
 ·have:=il oY (I5 c lN)
  omega
 ·have:=I5 c lN _ (A5 d hd)
  exact⟨by omega,by omega⟩
 ·have h1:=il Di.en fun u hu=>by
   obtain⟨d,hd,rfl⟩:=QK.1 hu;exact I5 c lN _ (A5 d hd)
  rw[Qi] at h1;omega
 ·rw[ea];exact cX.1 (Vh a Nn)
 rw[ez];exact cX.1 (Vh z Ca)
theorem EZ {P:Int->Bool} {l:List Int} (h:∃ x∈l,P x=true):Co P l=(l.findIdx P:Nat)/\l.findIdx P<l.length:=by
 have h1:l.findIdx P<l.length:=List.findIdx_lt_length_of_exists h;refine⟨?_,h1⟩;refine vj h1 ?_ fun j hj=>?_
 ·simp only[Qd,Qe h1,Ql]
  exact List.findIdx_getElem
 simp only[Qd,Qe (show j<l.length by omega),Ql];exact Qs.2 (by have:=Qx hj;simpa using this)
theorem Yt {g:Gr} {b:Pt} {s:Sk} {i N a z f:Nat} {w old:List Int} (h:ael g b s (s.rest.getD i ⟨[],[],[]⟩) N a z f w old) {k j:Nat} {o:List Int} (hk:old.findIdx (fun d=>decide (g.tail d=(a:Int)))=k) (ho:old.drop k++old.take k=o) (hj:o.findIdx (fun d=>decide (g.tail d=(z:Int)))=j) :
  s.put g b.v i=⟨eF g s.on w,s.aj.set f (o.take j++twins w)++[w++o.drop j],
   (s.rest.eraseIdx i).map (eW g (s.aj.set f (o.take j++twins w)++[w++o.drop j]) f (s.aj.length:Int))++cr g (eF g s.on w) (s.aj.set f (o.take j++twins w)++[w++o.drop j]) (aY (s.rest.getD i ⟨[],[],[]⟩).ah w) [(f:Int),(s.aj.length:Int)]⟩:=by
 unfold Sk.put;simp only[h.a0,h.uG,h.z0,h.f0];have e:qY g (bg s.aj (f:Int)) w a z=(o.take j++twins w,w++o.drop j):=by
  unfold qY bg;rw[QM,h.V2];simp only;rw[hk,ho,hj]
 rw[e,QM]
end Go.Proofs.YtbkjljffnkdcjaaGreat.Plain
namespace Go.Proofs.YtbkjljffnkdcjaaGreat
open Go.RowKit Go.Maps
section
variable {w w' : World} {B n m sz : Nat} {e : TypeId} {v u v' : Value} {xs ys : List Value} {cs ds : List Cell}
theorem bF.Bu {own:List Nat} {c:Cell} {x:Value} (h:c.At w B x) (hc:ai own w w') (ho:∀ j∈own,∃ t,bI w j t/\t≠3):c.At w' B x :=
 h.aM hc fun b hb hm=>by
  obtain⟨-,-,Eu,r,hh⟩:=h.low b (by simpa using hb);obtain⟨t,h1,h2⟩:=ho b hm;exact h2 (h1.one ⟨_,_,hh⟩)
theorem bF.abP (h:bF w B e sz v n xs cs) (he:e≠3):∀ j∈v.ownBlock.toList,∃ t,bI w j t/\t≠3:=fun j hj=>⟨e,cf h.out (by simpa using hj),he⟩
theorem bF.cat (h1:bF w B e sz v n xs cs) (h2:bF w B e sz u m ys ds) (he:e≠3) (jE:∀ k l b,k<xs.length->l<ys.length->(xs.getD k undef).ownBlock=QP b->(ys.getD l undef).ownBlock≠QP b)
  (r1:w'.ownsRow B e sz v' (n+m) (xs++ys)) (r2:ai v.ownBlock.toList w w'):bF w' B e sz v' (n+m) (xs++ys) (cs++ds):=by
 have l1:=h1.len;have l2:=h2.len;have hk:=h1.abP he;refine⟨r1,by simp[l1,l2],by rw[Qa,h1.cells,h2.cells,Nat.add_mul],fun k c Te=>?_,fun k l hk hl bh=>?_⟩
 ·by_cases e1:k<xs.length
  ·rw[cQ e1]
   rw[Qq (by omega)] at Te;exact bF.Bu (h1.fits k c Te) r2 hk
  rw[cd (by omega)];rw[Qo (by omega)] at Te;rw[l1];exact bF.Bu (h2.fits _ c Te) r2 hk
 rw[Qa] at hk hl;by_cases e1:k<xs.length
 ·rw[cQ e1]
  by_cases e2:l<xs.length
  ·rw[cQ e2];exact h1.apart k l e1 e2 bh
  rw[cd (by omega)];cases hq:(xs.getD k undef).ownBlock with
  | none=>exact Q8 rfl
  | some b=>exact QV fun q=>jE k _ b e1 (by omega) hq q.symm
 rw[cd (by omega)];by_cases e2:l<xs.length
 ·rw[cQ e2]
  cases hq:(ys.getD (k - xs.length) undef).ownBlock with
  | none=>exact Q8 rfl
  | some b=>exact QV fun q=>jE l _ b e2 (by omega) q.symm hq
 rw[cd (by omega)];exact h2.apart _ _ (by omega) (by omega) (by omega)
theorem rQ {α:Type} {xs:List α} {d:α} {a b k:Nat} (ha:a<=xs.length):(xs.take a++xs.drop b).getD k d=if k<a then xs.getD k d else xs.getD (k - a+b) d:=by
 have hl:(xs.take a).length=a:=by rw[Qb];omega
 split
 ·rename_i q
  rw[cQ (by omega)];simp only[Qd];rw[QG,if_pos q]
 rw[cd (by omega),hl];simp[Qd,Qm,QZ]
theorem OA {α:Type} {xs:List α} {a b k:Nat} (ha:a<=xs.length):(xs.take a++xs.drop b)[k]?=if k<a then xs[k]? else xs[k - a+b]?:=by
 have hl:(xs.take a).length=a:=by rw[Qb];omega
 split
 ·rw[Qq (by omega),QG,if_pos (by assumption)]
 rw[Qo (by omega),hl,Qm,QZ]
theorem bF.cut {own:List Nat} {n' a b:Nat} (h:bF w B e sz v n xs cs) (lT:a<=b) (hb:b<=xs.length) (bL:w'.ownsRow B e sz v' n' (xs.take a++xs.drop b)) (hc:ai own w w') (ho:∀ j∈own,∃ t,bI w j t/\t≠3) :
  bF w' B e sz v' n' (xs.take a++xs.drop b) (cs.take a++cs.drop b):=by
 have hl:=h.len;have hlen:(xs.take a++xs.drop b).length=xs.length - (b - a):=by rw[Qa,Qb,Qc];omega
 refine⟨bL,by rw[hlen,Qa,Qb,Qc];omega,bL.1,fun k c hk=>?_,fun k l hk RC bh=>?_⟩
 ·rw[OA (by omega)] at hk
  rw[rQ (by omega)];split
  ·rename_i q;rw[if_pos q] at hk;exact bF.Bu (h.fits _ c hk) hc ho
  rename_i q;rw[if_neg q] at hk;exact bF.Bu (h.fits _ c hk) hc ho
 rw[hlen] at hk RC;rw[rQ (by omega),rQ (by omega)];split <;> split
 ·exact h.apart _ _ (by omega) (by omega) bh
 ·exact h.apart _ _ (by omega) (by omega) (by omega)
 ·exact h.apart _ _ (by omega) (by omega) (by omega)
 exact h.apart _ _ (by omega) (by omega) (by omega)
end
theorem Rt (R:List Plain.bj) (i:Nat):dF (R.eraseIdx i)=(dF R).take (3*i)++(dF R).drop (3*i+3):=by
 have ht:∀ (R:List Plain.bj) (i:Nat),dF (R.take i)=(dF R).take (3*i)/\dF (R.drop i)=(dF R).drop (3*i):=by
  intro R
  induction R with
  | nil=>intro i;simp[dF]
  | cons c l ih =>
   intro i;have hs:dF (c :: l)=.row c.ah :: .row c.ends :: .row c.aj :: dF l:=by simp[dF]
   cases i with
   | zero=>simp[dF]
   | succ i =>
    have h:=ih i;have FC:dF (c :: l.take i)=.row c.ah :: .row c.ends :: .row c.aj :: dF (l.take i):=by simp[dF]
    rw[List.take_succ_cons,List.drop_succ_cons,hs,FC,h.1,h.2,show 3*(i+1)=3*i+1+1+1 by omega];exact⟨rfl,rfl⟩
 rw[Qj];have jE:∀ A C:List Plain.bj,dF (A++C)=dF A++dF C:=fun A C=>by simp[dF]
 rw[jE,(ht R i).1,(ht R (i+1)).2,show 3*(i+1)=3*i+3 by omega]
theorem KS {w:World} {B:Nat} {e:TypeId} {sz g n m c:Nat} {xs:List Value} (h:w.ownsRow B e sz (.slice (some ⟨g,0,none⟩) n c) n xs) (hm:m<=n):w.ownsRow B e sz (.slice (some ⟨g,0,none⟩) m c) m (xs.take (m*sz)):=by
 obtain⟨h0,h | ⟨g',cap,cur,e1,h1,h2,h3,h4,h5,h6⟩⟩:=h
 ·cases h.1
 cases e1;have hle:m*sz<=n*sz:=Nat.mul_le_mul_right _ hm;refine⟨by rw[Qb,h0];exact Qz hle,QV ⟨g,c,cur,rfl,h1,h2,by omega,h4,h5,?_⟩⟩;rw[<-h6,QD,Qz hle]
theorem Oz (g c k B:Nat) (l:List Int) (w:World) (h:ax w B (.slice (some ⟨g,0,none⟩) l.length c) l) (hk:k<l.length) :
  Calls Tryz.prog 125 #[.slice (some ⟨g,0,none⟩) l.length c,.int .i64 (k:Nat),.int .i64 ((k:Int)+1)] w fun e w'=>e=.returned (.slice (some ⟨g,0,none⟩) (l.eraseIdx k).length c)/\ax w' B (.slice (some ⟨g,0,none⟩) (l.eraseIdx k).length c) (l.eraseIdx k)/\ai [g] w w':=by
 have hl:(ints l).length=l.length:=by simp[ints]
 have nz:(l.eraseIdx k).length=l.length - 1:=Qp hk;have bL:=h.1;obtain⟨j5,am6⟩:l.length<=c/\c<=9223372036854775807:=by
  rcases bL.2 with ⟨q,-⟩ | ⟨g',c',cur,q,-,-,h3,h4,-⟩
  ·cases q
  cases q;exact⟨h3,by simpa[maxLen] using h4⟩
 rw[<-hl] at bL;have hH:Go.Sort.Holds (Qk .i64) w g 0 l.toArray:=j6 bL (by simp[ints]);refine (Tryz.slices_Delete_int g 0 c k (k+1) l w hH j5 am6 (by omega) (by omega)).mono ?_;rintro e w' ⟨rfl,n,rfl⟩;obtain⟨d,hd⟩:∃ d,(l.take k++l.drop (k+1)++QW (k+1 - k) (0:Int))=d:=⟨_,rfl⟩;have x9:d.length=l.length:=by
  rw[<-hd];simp;omega
 rw[hd];have he:Go.Sort.putRow (Qk .i64) (Go.Sort.ahead w n) g 0 d.toArray=sortWorld (Qk .i64) w g 0 n d.toArray #[]:=by
  unfold sortWorld;simp[Go.Sort.grow];rfl
 rw[he];have uL:=ly (enc:=Qk .i64) (n:=n) (os:=#[]) (d:=d.toArray) bL (by simp[hl,x9]);have hle:=KS uL (m:=l.length - 1) (by rw[hl];omega);have tK:(d.toArray.toList.map (Qk .i64)).take ((l.length - 1)*1)=ints (l.eraseIdx k):=by
  rw[Nat.mul_one,<-List.map_take];show Q6 _ (d.take (l.length - 1))=Q6 _ (l.eraseIdx k)
  congr 1
  rw[<-hd,Qj,Qf (by simp;omega),Qy (by simp;omega)]
 rw[tK] at hle;refine⟨by rw[nz,show k+1 - k=1 by omega],⟨by rw[nz];exact hle,fun x hx=>h.2.1 x (List.mem_of_mem_eraseIdx hx),by have:=h.2.2;omega⟩,?_⟩;exact nf (Qk .i64) w g n #[] _
namespace Plain
def ixI (l:List Int) (x:Int):Int:=if x∈l then (l.idxOf x:Nat) else -1
theorem Mg (l:List Int) (x:Int):Go.Lib.idxOf l x=ixI l x:=by
 unfold ixI;by_cases h:x∈l
 ·rw[if_pos h]
  have h1:l.idxOf x<l.length:=Qt.2 h;have h2:l[l.idxOf x]=x:=List.getElem_idxOf h1;have:=Go.Lib.idxOf_hit l l.length (l.idxOf x) x h1 (QC _) (by simp only[Qd,Qe h1,Ql];exact h2) (fun j hj e=>by
   have sH:j<l.length:=by omega
   simp only[Qd,Qe sH,Ql] at e;have h3:=Qx (p:=(·==x)) (xs:=l) (i:=j) hj;simp at h3;exact h3 e)
  rwa[Qv] at this
 rw[if_neg h];have:=Go.Lib.idxOf_miss l l.length x (fun j hj e=>h (by rw[<-e];simp[Qd,hj]));rwa[Qv] at this
theorem UU {l:List Int} {x:Int} (h:x∈l):ixI l x=(l.idxOf x:Nat)/\l.idxOf x<l.length/\l.eraseIdx (l.idxOf x)=l.erase x :=
 ⟨if_pos h,Qt.2 h,(List.erase_eq_eraseIdx_of_idxOf rfl).symm⟩
end Plain
theorem Rn (v:Value) (l:List Int) (x:Int) (B:Nat) (w:World) (hn:l.length<1000000000) (h:ax w B v l) :
  Calls Tryz.prog 124 #[v,.int .i64 x] w fun e w'=>e=.returned (.int .i64 (Plain.ixI l x))/\ai [] w w':=by
 obtain⟨ao,c,rfl⟩:=h.shape;by_cases h0:l=[]
 ·subst h0
  refine (Tryz.slices_Index_int_empty ao c x w).mono ?_;rintro e w' ⟨rfl,rfl⟩;exact⟨rfl,ai.refl _ _⟩
 obtain⟨g,hg,hc⟩:=h.some (QE.2 h0);subst hg;refine (Tryz.slices_Index_int g 0 l.length c l x w (QC _) (by omega) (fun j hj=>by rw[Qw];exact hc j hj)).mono ?_;rintro e w' ⟨rfl,rfl⟩;exact⟨bS (by rw[Qv];exact Plain.Mg l x),ai.refl _ _⟩
namespace Plain
def rA (g:Gr) (e j:Nat) (v:Int):List Int:=((QF j).map fun i=>((2*e+i:Nat):Int)).filter fun d=>decide (g.tail d=v)
theorem Ms (g:Gr) (e j:Nat) (v:Int):rA g e (j+1) v=if v=g.tail ((2*e+j:Nat):Int) then rA g e j v++[((2*e+j:Nat):Int)] else rA g e j v:=by
 unfold rA;rw[QQ,QR,List.filter_append];by_cases h:v=g.tail ((2*e+j:Nat):Int)
 ·have hh:List.filter (fun d=>decide (g.tail d=v)) (Q6 (fun i=>((2*e+i:Nat):Int)) [j])=[((2*e+j:Nat):Int)]:=by
   rw[QX,Q0,List.filter_cons_of_pos (by rw[decide_eq_true_eq];exact h.symm),QS]
  rw[if_pos h,hh]
 rw[if_neg h];have h2:decide (g.tail ((2*e+j:Nat):Int)=v)=false:=decide_eq_false fun q=>h q.symm;simp only[QX,Q0,List.filter_cons,QS,h2,Bool.false_eq_true,if_false,List.append_nil]
theorem CJ (g:Gr) (e j:Nat) (v:Int):(rA g e j v).length<=j:=by
 unfold rA;have h2:=List.length_filter_le (fun d=>decide (g.tail d=v)) ((QF j).map fun i=>((2*e+i:Nat):Int));rwa[Qi,QN] at h2
end Plain
def kO (g:Plain.Gr) (e j N:Nat):List Cell:=(QF N).map fun v:Nat=>Cell.row (Plain.rA g e j v)
theorem Ic (g:Plain.Gr) (e N:Nat):kO g e 0 N=QW N (Cell.row []):=by
 unfold kO;have:(fun v:Nat=>Cell.row (Plain.rA g e 0 v))=fun _=>Cell.row []:=by funext v;simp[Plain.rA]
 rw[this,List.map_const',QN]
theorem Ki {g:Plain.Gr} {e j N v:Nat} (_hv:v<N) (ht:g.tail ((2*e+j:Nat):Int)=v):(kO g e j N).set v (.row (Plain.rA g e j v++[((2*e+j:Nat):Int)]))=kO g e (j+1) N:=by
 refine List.ext_getElem (by simp[kO]) fun i h1 h2=>?_;have hi:i<N:=by simpa[kO] using h2
 rw[List.getElem_set];simp only[kO,List.getElem_map,List.getElem_range];rw[Plain.Ms,ht];by_cases e1:v=i
 ·subst e1;simp
 rw[if_neg e1,if_neg (by omega)]
theorem Oa {g:Plain.Gr} {e j N v:Nat} (hv:v<N):(kO g e j N)[v]?=some (.row (Plain.rA g e j v)):=by
 unfold kO;rw[List.getElem?_map,List.getElem?_range hv];rfl
theorem Db {g:Plain.Gr} {N d:Nat} (hr:g.err=0) (hN:g.n=N) (hd:d / 2<g.e.length):∃ v:Nat,g.tail (d:Int)=v/\v<N:=by
 obtain⟨h1,h2,h3,h4⟩:=Plain.Gr.aP hr;have he:=h4 _ hd;have ht:g.tail (d:Int)=(g.ends (d / 2)).1\/g.tail (d:Int)=(g.ends (d / 2)).2:=by
  unfold Plain.Gr.tail Plain.Gr.at;have:((d:Int) / 2).toNat=d / 2:=by omega
  rw[this];split
  ·exact Q8 rfl
  exact QV rfl
 refine⟨(g.tail (d:Int)).toNat,?_,?_⟩
 ·rcases ht with q | q <;> rw[q] <;> omega
 rcases ht with q | q <;> rw[q] <;> omega
namespace Plain
theorem O5 {g:Gr} {p:Pt} {e:Nat} (he:p.e=[(e:Int)]) (v:Int):rA g e 2 v=a8 g p v:=by
 unfold rA a8 Pt.ag;rw[he];simp[QQ]
end Plain
set_option maxRecDepth 100000 in
set_option maxHeartbeats 4000000 in
theorem GI (vg:Value) (g:Plain.Gr) (e0 N:Nat) (w:World) (hr:g.err=0) (hN:g.n=N) (he:e0<g.e.length) (hg:dU w vg g) :
  Calls Tryz.prog 54 #[vg,.int .i64 e0] w fun e w'=>∃ ob xs,e=.returned (.slice (some ⟨ob,0,none⟩) N N)/\bF w' w.heap.size 25 1 (.slice (some ⟨ob,0,none⟩) N N) N xs (kO g e0 2 N)/\ai [] w w':=by
 have HN:=lh hN;have HG:=lh hg;have j7:=lh (Plain.Gr.aP hr);have HR:=lh hr;obtain⟨eo,cap,rfl,-,-,-,-⟩:=hg;have eV:=lh (show ai [] w (w.alloc (.cells #[.int .i64 g.n,.slice eo g.e.length cap] 24)) from (show ai [] w (w.alloc (.cells #[.int .i64 g.n,.slice eo g.e.length cap] 24)) from ((ai.refl [] w).alloc _)));have cK:=heap_alloc_new w (.cells #[.int .i64 g.n,.slice eo g.e.length cap] 24);have HX:=lh (fun (w2:World) (dL:ai [] (w.alloc (.cells #[.int .i64 g.n,.slice eo g.e.length cap] 24)) w2)=>(⟨dL.c ((cell_of_row _ _ 0 _ _ _ cK).trans rfl),dL.c ((cell_of_row _ _ 1 _ _ _ cK).trans rfl),by have hz:=dL.size;simpa using hz⟩:w2.cell? ⟨w.heap.size,0,none⟩=some (.int .i64 g.n)/\w2.cell? ⟨w.heap.size,1,none⟩=some (.slice eo g.e.length cap)/\w.heap.size+1<=w2.heap.size));clear cK;have CK:=lh (show (w.alloc (.cells #[.int .i64 g.n,.slice eo g.e.length cap] 24)).heap.size=w.heap.size+1 by simp);obtain⟨x0,x1,-⟩:=HX.out _ (ai.refl _ _);have hNN:N<=1024:=by have:=j7.out.2.1;omega
 have vG:(e0:Int)<=1024:=by have:=j7.out.2.2.1;have:=j7.out.1;omega
 have Mk:g.e.length<=1024:=by have:=j7.out.2.2.1;have:=j7.out.1;omega
 clear hr hN
 go_enter Tryz.func54,Tryz.ntmps54
 go_wp2_with (at_make;refine JK qS rfl _ _ rfl (B:=(w.alloc (.cells #[.int .i64 g.n,.slice eo g.e.length cap] 24)).heap.size) (n:=N) (by show Qk .i64 g.n=_;rw[HN.out]) (by show Qk .i64 g.n=_;rw[HN.out]) (QC _) (by omega) ?_;intro w2 h2 c2;have H2:=lh (sP h2);have C2:=lh c2;clear h2 c2)
 clear x0 x1;have jZ:(w.alloc (.cells #[.int .i64 g.n,.slice eo g.e.length cap] 24)).heap.size=w.heap.size+1:=by simp
 generalize w.alloc (.cells #[.int .i64 g.n,.slice eo g.e.length cap] 24)=w1 at *;obtain⟨ob,Bc⟩:∃ n,w.heap.size+1=n:=⟨_,rfl⟩;have MD:=lh (jZ.trans Bc);rw[jZ,Bc] at H2;rw[Bc];clear Bc jZ
 go_loopw [6,7] (fun c _ wr=>∃ j:Nat,j<=2/\c=.int .i64 ((2*e0+j:Nat):Int)/\∃ xs,bF wr ob 25 1 (.slice (some ⟨ob,0,none⟩) N N) N xs (kO g e0 j N)/\ai [] w1 wr) (fun c _ _=>2*e0+2 - (intOf c).toNat)
 case atStart=>exact⟨0,by omega,by go_num,_,by rw[Ic];exact H2.out,C2.out⟩
 case round =>
  obtain⟨j,hj,rfl,xs,bh,hc⟩:=hrel;have lK:=lh bh;have HC:=lh hc;clear bh hc H2 C2;by_cases Mi:j<2
  ·obtain⟨d,hd⟩:∃ d:Nat,2*e0+j=d:=⟨_,rfl⟩
   have pG:d / 2<g.e.length:=by omega
   obtain⟨v,hv,zL⟩:=Db HR.out HN.out pG;have HV:=lh hv;have HD:=lh hd;have x9:(d:Int)<=2*(e0:Int)+1:=by omega
   have mm:d<4096:=by omega
   have Tu:(v:Int)<(N:Int):=by omega
   rw[hd];clear hv;obtain⟨x0,x1,-⟩:=HX.out wr HC.out
   go_wp2_with fail
   refine (dy _ g d _ pG (by omega) (HG.out.fresh (eV.out.t HC.out))).mono ?_;rw[HV.out];rintro e w3 ⟨rfl,dB⟩;have La:=lK.out.fresh dB;have xp:=La.cells;obtain⟨va,vc,nt,nr,w4,p1,p2,p3,p4,p5,p6,p7,p8,p9,MT,Yo⟩:=oS (q:=v) (x:=(d:Int)) La (by decide) (Nat.le_trans (La.out.lt ob rfl).1 (Q3 (La.out.lt ob rfl).2)) (by rw[xp];show v<N*1;omega) (Oa zL) (bn.mk (by omega) (by omega)) (by have h1:=Plain.CJ g e0 j (v:Int);omega);have sH:=Plain.CJ g e0 j (v:Int);obtain⟨ln,yV⟩:∃ ln,(Plain.rA g e0 j (v:Int)).length=ln:=⟨_,rfl⟩;have HP5:=lh (show bF _ ob 25 1 (.slice (some ⟨ob,0,none⟩) N N) N _ (kO g e0 (j+1) N) from by
    have h1:=Ki (g:=g) (e:=e0) (j:=j) zL (by rw[HD.out];exact HV.out);rw[<-h1,HD.out];exact p5)
   have kh:=lh (show ai [] w1 _ from (HC.out.t dB).trans p8 (fun b hb=>by
    refine QV ?_;rw[MD.out];rcases QY.1 hb with q | q
    ·rw[q];exact QC _
    exact (La.kind (k:=v) (by rw[xp];omega) (by rw[p7];simpa[aL] using q)).1))
   rw[yV] at p1 p2 p3 p9 MT HP5 kh;have vH:=lh p2;clear p2 p5 p6 p7 p8 p9 MT Yo La yV
   go_wp2_with (at_builtin;refine ki rfl _ _ 25 rfl rfl rfl vH.out ?_)
   exact⟨⟨j+1,by omega,by congr 1;omega,_,HP5.out,kh.out⟩,by simp[intOf];omega⟩
  have e2:j=2:=by omega
  subst e2;have mj:¬ ((2*e0+2:Nat):Int)<=2*(e0:Int)+1:=by omega
  go_wp2;go_ret;exact⟨ob,rfl,⟨xs,lK.out.base (by rw[<-MD.out];exact eV.out.size)⟩,eV.out.t HC.out⟩
theorem lD {g:Nat} {t:TypeId}:∀ (vs:List Value) (o:Nat) (w:World) (cs:Array Value),w.heap[g]?=some (.cells cs t (0,0))->o+vs.length<=cs.size ->
  ∃ Eu:Array Value,(w.setCells g o vs).heap[g]?=some (.cells Eu t (0,0))/\Eu.size=cs.size/\Eu.toList=cs.toList.take o++(vs++cs.toList.drop (o+vs.length))
 | [],o,w,cs,h,_=>⟨cs,h,rfl,by simp⟩
 | v :: r,o,w,cs,h,hl=>by
  rw[Qu] at hl;obtain⟨Eu,h1,h2,h3⟩:=lD r (o+1) (w.setCell ⟨g,o,none⟩ v) (cs.setIfInBounds o v) (heap_setCell_same h o v) (by rw[Array.size_setIfInBounds];omega);refine⟨Eu,h1,by simpa using h2,?_⟩;have e:(cs.setIfInBounds o v).toList=cs.toList.take o++v :: cs.toList.drop (o+1):=by
   rw[Array.toList_setIfInBounds,List.set_eq_take_append_cons_drop,if_pos (by rw[Qh];omega)]
  rw[h3,e];have hA:(cs.toList.take o).length=o:=by rw[Qb,Qh];omega
  generalize cs.toList.take o=A at *;subst hA;rw[show A++v :: cs.toList.drop (A.length+1)=(A++[v])++cs.toList.drop (A.length+1) by simp];have hd:(A++[v]).drop (A.length+1+r.length)=[]:=List.drop_eq_nil_of_le (by simp);have ht:((A++[v])++cs.toList.drop (A.length+1)).take (A.length+1)=A++[v]:=by
   rw[show A.length+1=(A++[v]).length by simp,List.take_left]
  rw[ht,List.drop_append,hd,QT,List.drop_drop,QO];simp only[Qa,Qu,List.length_nil,QT,List.cons_append,Qw];rw[show A.length+1+(A.length+1+r.length - (A.length+1))=A.length+(r.length+1) by omega]
theorem mX {own:List Nat} {a:World} {g:Nat} (hg:g∈own):∀ (vs:List Value) (o:Nat) {w:World},ai own a w->ai own a (w.setCells g o vs)
 | [],_,_,h=>h
 | v :: r,o,_w,h=>mX hg r (o+1) (h.setCell (Q8 hg) v)
theorem vR (w:World) (t e ty:TypeId) (z:Value) (ht:Tryz.prog.underlying t=some (.slice e)) (hv:∀ w,(zeroValue e).run Tryz.prog w=.ok z w) (b o n c:Nat) (hn:0<n) (L:List Value) (hL:(Builtin.zeroCells z.cells n).toList=L)
  (h1:∀ v∈L,v.oneCell'=true) (hc:∀ j,j<L.length->(w.cell? ⟨b,o+j,none⟩).isSome=true) (hf:∀ j,j<L.length->w.frozen? ⟨b,o+j,none⟩=false) :
  (Builtin.clear_ #[t] ty #[.slice (some ⟨b,o,none⟩) n c]).run Tryz.prog w=.ok (.tuple #[]) (w.setCells b o L):=by
 have uP:=run_storeCells_cells (P:=Tryz.prog) b o L 0 w (by simpa using hc) (by simpa using hf) h1;simp only[Nat.add_zero] at uP;obtain⟨m,rfl⟩:∃ m,n=m+1:=⟨n - 1,by omega⟩;simp[Builtin.clear_,run_underlying ht,hv,hL,uP]
set_option maxRecDepth 100000 in
set_option maxHeartbeats 4000000 in
theorem RM (g c i B:Nat) (R:List Plain.bj) (xs:List Value) (w:World) (h:bF w B 151 3 (.slice (some ⟨g,0,none⟩) R.length c) R.length xs (dF R)) (hi:i<R.length) (hn:R.length<=2000) :
  Calls Tryz.prog 119 #[.slice (some ⟨g,0,none⟩) R.length c,.int .i64 i,.int .i64 ((i:Int)+1)] w fun e w'=>e=.returned (.slice (some ⟨g,0,none⟩) (R.eraseIdx i).length c)/\bF w' B 151 3 (.slice (some ⟨g,0,none⟩) (R.eraseIdx i).length c) (R.eraseIdx i).length (xs.take (3*i)++xs.drop (3*i+3)) (dF (R.eraseIdx i))/\ai [g] w w':=by
 have nz:(R.eraseIdx i).length=R.length - 1:=Qp hi;have rT:=lh nz;have HN:=lh h;obtain⟨cur,hB,hg,tI,lN,jQ,lJ⟩:∃ cur,B<=g/\w.heap[g]?=some (.cells cur 151 (0,0))/\R.length<=c/\c<=maxLen/\cur.size=c*3/\cur.toList.take (R.length*3)=xs:=by
  rcases h.out.2 with ⟨q,-⟩ | ⟨g',c',cur,q,k1,k2,k3,k4,k5,k6⟩
  ·cases q
  cases q;exact⟨cur,k1,k2,k3,k4,k5,k6⟩
 have xp:=h.cells;have hm:c<=9223372036854775807:=by simpa[maxLen] using lN
 have lQ:∀ u∈xs,u.oneCell'=true:=fun u hu=>by
  obtain⟨k,hk,rfl⟩:=List.mem_iff_getElem.1 hu;obtain⟨cc,-,jM⟩:=h.fit hk;have:=jM.one;simpa[Qd,hk] using this
 have Be:∀ k,k<R.length*3->w.cell? ⟨g,k,none⟩=some (xs.getD k undef):=fun k hk=>h.cell (by omega);obtain⟨n,hRn⟩:∃ n,R.length=n:=⟨_,rfl⟩;rw[hRn] at hi hn nz tI lJ xp Be rT ⊢;rw[nz]
 -- the append
 obtain⟨i0,hi0,Dl,jZ,pF⟩:=info_parts lO.hi;have FO:(xs.drop (3*i+3)).length=(n - (i+1))*i0.size:=by rw[Qc,xp,jZ];omega
 have Er:∀ k,w.drew.frozen? ⟨g,k,none⟩=false:=fun k=>by
  have:=bJ hg k;exact this
 have gC:∀ A:Addr,(∀ j u,(xs.drop (3*i+3))[j]?=some u->w.drew.cell? (A.add j)=some u)->(Builtin.append_ #[83,83] 83 #[.slice (some ⟨g,0,none⟩) i c,.slice (some A) (n - (i+1)) (c - (i+1))]).run Tryz.prog w.drew=.ok (.slice (some ⟨g,0,none⟩) (i+(n - (i+1))) c) (w.drew.setCells g (0+i*i0.size) (xs.drop (3*i+3))):=fun A hA =>
  run_append_room_cells w.drew 83 83 151 i0 lO.ht hi0 g 0 i c A (n - (i+1)) (c - (i+1)) (xs.drop (3*i+3)) FO hA (fun u hu=>lQ u (List.mem_of_mem_drop hu)) (by omega) (fun j hj=>by
   rw[FO,jZ] at hj;rw[Qw,jZ];have h1:=Be (i*3+j) (by omega);exact Option.isSome_iff_exists.2 ⟨_,h1⟩) (fun j hj=>Er _)
 rw[jZ,Qw] at gC;have acW:=lh gC;have hiN:(i:Int)<(n:Int):=by omega
 have atm:(0:Int)<=(i:Int)+1:=by omega
 have au0:(i:Int)+1<=(n:Int):=by omega
 obtain⟨A,hA,DU⟩:∃ A:Addr,(if c=i+1 then some (⟨g,0,none⟩:Addr) else some ⟨g,(i+1)*3,none⟩)=some A/\∀ (j:Nat) (u:Value),(xs.drop (3*i+3))[j]?=some u->w.drew.cell? (A.add j)=some u:=by
  have iw:∀ o j:Nat,(⟨g,o,none⟩:Addr).add j=⟨g,o+j,none⟩:=fun o j=>by unfold Addr.add;split <;> simp_all
  by_cases q:c=i+1
  ·refine⟨⟨g,0,none⟩,by rw[if_pos q],fun j u hu=>?_⟩
   have:=(Qr.1 hu).1;rw[Qc] at this;omega
  refine⟨⟨g,(i+1)*3,none⟩,by rw[if_neg q],fun j u hu=>?_⟩;have hj:=(Qr.1 hu).1;rw[Qc] at hj;rw[Qm] at hu;rw[iw,show (i+1)*3+j=3*i+3+j by omega];have h1:=Be (3*i+3+j) (by omega);rw[show xs.getD (3*i+3+j) undef=u by simp[Qd,hu]] at h1;exact h1
 have aer:=lh DU;have Xj:i<=c:=by omega
 have aws:i+1<=c:=by omega
 clear gC lQ Be Er FO h DU
 go_enter Tryz.func119,Tryz.ntmps119
 go_wp2_with fail
 have aD:ai [] w w.drew:=(ai.refl [] w).drew;refine au (ai [] w) [0,1,2,3,4] (Way.line [0,1,2,3,4,5,6,7] .done) (by kernel_rfl) (by kernel_rfl) ?_;simp only[Way.line]
 repeat
  first
   | (refine ar rfl (by rfl) (by rfl) (fun _ _ _ h=>h) aD ?_;simp only[QJ,Z1,Z2,Z3,Z4,Z5,Z6])
   | (refine aq (v:=?_) rfl (by rfl) (by rfl) (fun _ _ _ h=>h) aD (fun w' aK=>?_) ?_;rotate_left;(focus (skip;clear aK;go_simp;try with_reducible rfl));simp only[QJ,Z1,Z2,Z3,Z4,Z5,Z6])
   | (refine ak rfl (by rfl) (by rfl) aD ?_;simp only[QJ,Z1,Z2,Z3,Z4,Z5,Z6])
 refine aC rfl (by rfl) (by rfl) (fun K hK=>?_);go_simp;refine hK.out _ _ (fun _=>aD) ?_;clear hK K
 try simp only[QJ,Z1,Z2,Z3,Z4,Z5,Z6]
 refine aC rfl (by rfl) (by rfl) (fun K hK=>?_);simp only[List.getElem_toArray,List.getElem_cons_zero,List.getElem_cons_succ];refine oZ (.tmp 22) (.tmp 25) 83 rfl rfl rfl (acW.out A aer.out) ?_;refine hK.out _ _ (fun h=>absurd h (Qs.1 (by kernel_rfl))) ?_;clear hK K
 try simp only[QJ,List.setIfInBounds_toArray,Qn,QH]
 refine aC rfl (by rfl) (by rfl) (fun K hK=>?_);go_simp;refine hK.out _ _ (fun h=>absurd h (Qs.1 (by kernel_rfl))) ?_;clear hK K
 try simp only[QJ,Z1,Z2,Z3,Z4,Z5,Z6]
 refine aB ?_;obtain⟨m,rfl⟩:∃ m,n=m+1:=⟨n - 1,by omega⟩;rw[show i+(m+1 - (i+1))=m by omega];obtain⟨cs1,k1,k2,k3⟩:=lD (xs.drop (3*i+3)) (i*3) w.drew cur hg (by rw[Qc];omega);have CD:ai [g] w (w.drew.setCells g (i*3) (xs.drop (3*i+3))):=mX (by simp) _ _ (ai.refl [g] w).drew;have anU:=lh CD;generalize w.drew.setCells g (i*3) (xs.drop (3*i+3))=w1 at *;have HK1:=lh k1;have HK3:=lh k3;have hmc:m<=c:=by omega
 have auf:m+1<=c:=by omega
 have ma:∀ ty,(Builtin.clear_ #[83] ty #[.slice (some ⟨g,m*3,none⟩) 1 (c - m)]).run Tryz.prog w1=.ok (.tuple #[]) (w1.setCells g (m*3) [.slice none 0 0,.slice none 0 0,.slice none 0 0]):=fun ty =>
  vR w1 83 151 ty (.agg #[.slice none 0 0,.slice none 0 0,.slice none 0 0]) lO.ht (fun w=>by simp[zeroValue,typeInfo,hi0,Dl]) g (m*3) 1 (c - m) (by omega) [.slice none 0 0,.slice none 0 0,.slice none 0 0] (by kernel_rfl) (fun u hu=>by
   simp at hu;subst hu;rfl) (fun j hj=>by
   have hj:j<3:=hj;rw[cell_of_row _ _ _ _ _ _ k1,Qg (by omega)];rfl) (fun j _=>bJ k1 _)
 obtain⟨cs2,l1,l2,l3⟩:=lD [.slice none 0 0,.slice none 0 0,.slice none 0 0] (m*3) w1 cs1 k1 (by simp;omega);have adx:=lh (mX (g:=g) (own:=[g]) (by simp) [.slice none 0 0,.slice none 0 0,.slice none 0 0] (m*3) anU.out);have Ss:=lh l1;have HL3:=lh l3;clear acW aer hA aD CD k1 k3 l1 l3;go_wp2;go_ret;clear ma;generalize w1.setCells g (m*3) [.slice none 0 0,.slice none 0 0,.slice none 0 0]=w2 at *;have hm':m+1 - 1=m:=by omega
 refine⟨rfl,?_,adx.out⟩;rw[hm'];have hlx:=HN.out.cells;have Cu:cs2.toList.take (m*3)=xs.take (3*i)++xs.drop (3*i+3):=by
  have e1:cs2.toList.take (m*3)=cs1.toList.take (m*3):=by
   rw[HL3.out,Qf (by rw[Qb,Qh];omega),QD,Nat.min_self]
  have hA:(cur.toList.take (i*3)).length=i*3:=by rw[Qb,Qh];omega
  have hB:(xs.drop (3*i+3)).length=m*3 - i*3:=by rw[Qc];omega
  rw[e1,HK3.out,<-QO,Qf (by rw[Qa];omega),Qy (by rw[Qa];omega)]
  congr 1
  rw[<-lJ,QD,Qz (by omega),Nat.mul_comm]
 have bL:w2.ownsRow B 151 3 (.slice (some ⟨g,0,none⟩) m c) m (xs.take (3*i)++xs.drop (3*i+3)):=by
  refine⟨?_,QV ⟨g,c,cs2,rfl,hB,Ss.out,by omega,lN,by omega,Cu⟩⟩;rw[Qa,Qb,Qc];omega
 rw[Rt];exact HN.out.cut (by omega) (by omega) bL adx.out (fun j hj=>⟨151,by rw[QI.1 hj];exact⟨_,_,hg⟩,by decide⟩)
theorem My {o:Oper} {a:Act} {K:Act->World->Prop} {Q:Exit->Act->World->Prop} {w:World} (p x:Operand) (ho:o.op=.store 147 p x) {b i n c m d:Nat} {fo go:Option Addr} {cs:Array Value} (hp:a.eval p=.pointer (some ⟨b,i,none⟩)) (hx:a.eval x=.agg #[.slice fo n c,.slice go m d])
  (hb:w.heap[b]?=some (.cells cs 147 (0,0))) (hi:i+1<cs.size)
  (hK:K (a.put o.dst undef) ((w.setCell ⟨b,i,none⟩ (.slice fo n c)).setCell ⟨b,i+1,none⟩ (.slice go m d))):o.wp Tryz.prog a w K Q:=by
 obtain⟨u0,hu0⟩:∃ u,cs[i]?=some u:=⟨_,Qg (by omega)⟩;obtain⟨u1,Ik⟩:∃ u,cs[i+1]?=some u:=⟨_,Qg (by omega)⟩;have c0:w.cell? ⟨b,i,none⟩=some u0:=by rw[cell_of_row _ _ _ _ _ _ hb];exact hu0
 have c1:w.cell? ⟨b,i+1,none⟩=some u1:=by rw[cell_of_row _ _ _ _ _ _ hb];exact Ik
 have z0:w.frozen? ⟨b,i,none⟩=false:=bJ hb _;have z1:w.frozen? ⟨b,i+1,none⟩=false:=bJ hb _;unfold Oper.wp execOp;simp only[ho,hp,hx];clear hp hx hb;go_simp;exact hK
theorem oO {w:World} {B n c:Nat} {a:Addr} {l:List Int} (h:ax w B (.slice (some a) n c) l):n=l.length/\n<=c:=by
 rcases h.1.2 with ⟨q,-⟩ | ⟨g',c',cur,q,-,-,h3,-⟩
 ·cases q
 simp only[Q7.injEq] at q;omega
theorem Ew {w:World} {B n m c sz g:Nat} {e:TypeId} {xs:List Value} (h:w.ownsRow B e sz (.slice (some ⟨g,0,none⟩) n c) m xs):∃ cs,w.heap[g]?=some (.cells cs e (0,0)):=by
 rcases h.2 with ⟨q,-⟩ | ⟨g',c',cur,q,-,hh,-⟩
 ·cases q
 simp only[Q7.injEq,QP.injEq,Addr.mk.injEq,and_true] at q;rw[q.1];exact⟨cur,hh⟩
theorem Im:pD 82 147 (.agg #[.slice none 0 0,.slice none 0 0]) 2 48:=⟨Tryz.underlying82,by kernel_rfl,rfl,by decide,by decide⟩
theorem nH.put {ob q:Nat} {xs ys:List Value} {v:Value} (h:nH ob xs ys) (hq:q<xs.length) (hv:∀ b,v.ownBlock=some b->b≠ob/\∀ l,l<ys.length->(ys.getD l undef).ownBlock≠some b):nH ob (xs.set q v) ys:=by
 refine⟨fun k hk e=>?_,fun k l b hk hl hb=>?_⟩
 ·rw[QU] at hk
  rw[dW _ _ _ _ _ hq] at e;by_cases r:k=q
  ·rw[if_pos r] at e;exact (hv ob e).1 rfl
  rw[if_neg r] at e;exact h.o k hk e
 rw[QU] at hk;rw[dW _ _ _ _ _ hq] at hb;by_cases r:k=q
 ·rw[if_pos r] at hb;exact (hv b hb).2 l hl
 rw[if_neg r] at hb;exact h.y k l b hk hl hb
theorem nH.add {ob:Nat} {xs ys us:List Value} (h:nH ob xs ys) (hv:∀ k b,k<us.length->(us.getD k undef).ownBlock=some b->b≠ob/\∀ l,l<ys.length->(ys.getD l undef).ownBlock≠some b):nH ob (xs++us) ys:=by
 refine⟨fun k hk e=>?_,fun k l b hk hl hb=>?_⟩
 ·rw[Qa] at hk
  by_cases r:k<xs.length
  ·rw[cQ r] at e;exact h.o k r e
  rw[cd (by omega)] at e;exact (hv _ ob (by omega) e).1 rfl
 rw[Qa] at hk;by_cases r:k<xs.length
 ·rw[cQ r] at hb;exact h.y k l b r hl hb
 rw[cd (by omega)] at hb;exact (hv _ b (by omega) hb).2 l hl
def iB (t:Plain.bj->Plain.bj) (R:List Plain.bj) (j:Nat):List Plain.bj:=(R.take j).map t++R.drop j
theorem Ko (t:Plain.bj->Plain.bj) (R:List Plain.bj):iB t R 0=R:=by simp[iB]
theorem P0 (t:Plain.bj->Plain.bj) (R:List Plain.bj):iB t R R.length=R.map t:=by simp[iB]
theorem CL {t:Plain.bj->Plain.bj} {R:List Plain.bj} {j:Nat} (hj:j<=R.length):(iB t R j).length=R.length:=by
 unfold iB;rw[Qa,Qi,Qb,Qc];omega
theorem Bk {t:Plain.bj->Plain.bj} {R:List Plain.bj} {j:Nat} (hj:j<R.length) (d:Plain.bj):(iB t R j).getD j d=R.getD j d:=by
 unfold iB;have hl:((R.take j).map t).length=j:=by rw[Qi,Qb];omega
 rw[cd (by omega),hl,Q4];simp[Qd]
theorem Ag {t:Plain.bj->Plain.bj} {R:List Plain.bj} {j:Nat} (hj:j<R.length) (d:Plain.bj):iB t R (j+1)=(iB t R j).set j (t (R.getD j d)):=by
 unfold iB;have hl:((R.take j).map t).length=j:=by rw[Qi,Qb];omega
 have e1:R.take (j+1)=R.take j++[R.getD j d]:=by
  rw[List.take_add_one];simp[Qd,hj]
 have e2:R.drop j=R.getD j d :: R.drop (j+1):=by
  rw[List.drop_eq_getElem_cons hj];simp[Qd,hj]
 rw[e1,e2,QR,List.set_append_right _ _ (by omega),hl,Q4,Qn];simp
theorem DF:∀ {L:List Plain.bj} {j:Nat} {c:Plain.bj},j<L.length->c.ah=(L.getD j ⟨[],[],[]⟩).ah->c.ends=(L.getD j ⟨[],[],[]⟩).ends->(dF L).set (j*3+2) (.row c.aj)=dF (L.set j c)
 | [],j,_,h,_,_=>by simp at h
 | d :: l,0,c,_,h1,h2=>by
  have hs:∀ d:Plain.bj,dF (d :: l)=.row d.ah :: .row d.ends :: .row d.aj :: dF l:=fun d=>by simp[dF]
  rw[Qn,hs,hs];have h1:c.ah=d.ah:=h1;have h2:c.ends=d.ends:=h2;rw[h1,h2];rfl
 | d :: l,j+1,c,h,h1,h2=>by
  have hs:∀ l:List Plain.bj,dF (d :: l)=.row d.ah :: .row d.ends :: .row d.aj :: dF l:=fun l=>by simp[dF]
  have ih:=DF (L:=l) (j:=j) (c:=c) (by simpa using h) h1 h2;rw[QH,hs,hs,<-ih,show (j+1)*3+2=j*3+2+1+1+1 by omega];rfl
theorem Ku {g:Plain.Gr} {F:List (List Int)} {f k:Int} {r:Plain.bj} (h:f∈r.aj):Plain.eW g F f k r=⟨r.ah,r.ends,r.aj.erase f++Plain.ic g F r.ends [f,k]⟩:=if_pos h
theorem Hg {g:Plain.Gr} {F:List (List Int)} {f k:Int} {r:Plain.bj} (h:f ∉ r.aj):Plain.eW g F f k r=r:=if_neg h
theorem Km {t:Plain.bj->Plain.bj} {R:List Plain.bj} {j:Nat} (hj:j<R.length) (d:Plain.bj) (h:t (R.getD j d)=R.getD j d):iB t R (j+1)=iB t R j:=by
 rw[Ag hj d,h];have h1:=Bk (t:=t) hj d;have hl:=CL (t:=t) (Q3 hj);have sH:j<(iB t R j).length:=by omega
 have h2:R.getD j d=(iB t R j)[j]:=by rw[<-h1];simp[Qd,sH]
 rw[h2,List.set_getElem_self]
theorem JW {w:World} {b:Nat} {x y:Int} {r:Nat × Nat} (h:w.heap[b]?=some (.cells #[.int .i64 x,.int .i64 y] 3 r)) (hx:bn x) (hy:bn y):aJ w (.slice (some ⟨b,0,none⟩) 2 2) [x,y]:=by
 refine⟨_,2,rfl,fun z hz=>?_,by simp,fun _=>⟨b,0,rfl,fun i hi=>?_⟩⟩
 ·rcases QY.1 hz with q | q
  ·rw[q];exact hx
  rw[QI.1 q];exact hy
 rcases (show i=0\/i=1 by simp at hi;omega) with q | q
 ·subst q;exact (cell_of_row _ _ 0 _ _ _ h).trans rfl
 subst q;exact (cell_of_row _ _ 1 _ _ _ h).trans rfl
end Go.Proofs.YtbkjljffnkdcjaaGreat
