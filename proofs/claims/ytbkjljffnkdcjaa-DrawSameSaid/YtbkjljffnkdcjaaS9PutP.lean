/- What holds where draw's put is called, in plain words. No program here. -/
import Derived.Test.YtbkjljffnkdcjaaS9RingOk
namespace Go.Proofs.Ytbkjljffnkdcjaa.Plain
structure PutF (g:Gr) (b:Pt) (s:Sk) (c:Scrap) (N a z f:Nat) (w old:List Int):Prop where
 a0:c.ends.getD 0 0=a
 aN:a<N
 aV:(a:Int)∈b.v
 el:2≤c.ends.length∧c.ends.length≤1024
 part:PartOk g ⟨b.v,c.edges⟩
 edges:∀ e∈c.edges,0≤e∧e<g.e.length
 edl:c.edges.length≤1024
 way:wayOf g s.on ⟨b.v,c.edges⟩ a=w
 wne:w≠[]
 wd:∀ d∈w,0≤d∧d / 2<g.e.length
 wl:w.length≤1024
 z0:g.head (w.getLastD 0)=z
 zN:z<N
 f0:c.faces.getD 0 0=f
 fF:f<s.faces.length
 fl:0<c.faces.length∧c.faces.length≤2050
 oldIs:s.faces.getD f []=old
 oa:∃ x∈old,g.tail x=a
 oz:∃ x∈old,g.tail x=z
 od:∀ d∈old,0≤d∧d / 2<g.e.length
 ol:old.length≤2048
 Fl:s.faces.length≤2050
 rest:∀ r∈s.rest,(∀ v∈r.ends,0≤v∧v<N)∧r.ends.length≤1024∧r.faces.length≤2050
 rl:s.rest.length≤1024
theorem flatMap_ge {α β:Type} {f:α→List β}:∀ {l:List α},(∀ x∈l,f x≠[])→l.length≤(l.flatMap f).length
 | [],_=>by simp
 | x :: l,h=>by
  have ih:=flatMap_ge (f:=f) (l:=l) fun y hy=>h y (List.mem_cons_of_mem _ hy)
  have:=List.length_pos_iff.2 (h x (by simp))
  rw[List.flatMap_cons,List.length_append,List.length_cons]
  omega
theorem small_len {l:List Int} {N:Nat} (hn:l.Nodup) (h:∀ u∈l,0≤u∧u<N):l.length≤N:=by
 have:=len_le_of_sub (l:=l) (m:=(List.range N).map fun n:Nat=>(n:Int)) hn fun x hx=>by
  have:=h x hx
  exact List.mem_map.2 ⟨x.toNat,List.mem_range.2 (by omega),by omega⟩
 simpa using this
theorem put_facts {g:Gr} {b:Pt} {s:Sk} {p:Pt} {turn:List (List Int)} {i N:Nat} (hbe:b.err g=0) (hN:g.n=N) (h:SkOk g b s p turn) (hi:i<s.rest.length) (hf:(s.rest.getD i ⟨[],[],[]⟩).faces≠[]) :
  ∃ a z f w old,PutF g b s (s.rest.getD i ⟨[],[],[]⟩) N a z f w old:=by
 have hbk:=Pt.ok_of_err hbe
 have hpk:=Pt.ok_of_err h.faces.pe
 obtain⟨hge,-,hbr,-⟩:=Pt.err_ok hbe
 obtain⟨hn0,hn1,hn2,-⟩:=Gr.err_ok hge
 have hpart:=h.part
 have hsubE:∀ e∈p.e,e∈b.e:=fun e he=>hpart.mem_iff.1 (List.mem_append_left _ he)
 have hbd:∀ e∈b.e,0≤e∧e<g.e.length:=fun e he=>by
  obtain⟨i,hi,rfl⟩:=mem_getD he
  have:=rises_at hbr hi
  exact⟨by omega,by omega⟩
 have hbl:b.e.length≤1024:=by
  have:=small_len hbk.en hbd
  omega
 have hpl:=len_le_of_sub hpk.en hsubE
 have heu:=h.faces.euler
 have hFl:s.faces.length≤1026:=by omega
 have hcm:s.rest.getD i ⟨[],[],[]⟩∈s.rest:=by simp[List.getD,hi]
 have hedge:∀ r∈s.rest,∀ e∈r.edges,0≤e∧e<g.e.length:=fun r hr e he=>hbd e ((h.scr r hr).sub e he)
 have hon:∀ v,s.on v=true→0≤v∧v<N:=fun v hv=>by
  have:=hbk.vr v (h.sub v ((h.on v).1 hv))
  omega
 have hends:∀ r∈s.rest,∀ v∈r.ends,0≤v∧v<N:=fun r hr v hv=>by
  rw[(h.scr r hr).ends] at hv
  exact hon v (mem_endsOf.1 hv).1
 have hendl:∀ r∈s.rest,r.ends.length≤1024:=fun r hr=>by
  have h1:r.ends.Nodup:=by rw[(h.scr r hr).ends];exact endsOf_nodup _ _ _
  have:=small_len h1 (hends r hr)
  omega
 have hfcl:∀ r∈s.rest,r.faces.length≤2050:=fun r hr=>by
  have h1:=h.scr r hr
  have:=small_len (N:=s.faces.length) h1.fnd fun u hu=>by
   have:=(h1.fcs u).1 hu
   exact⟨by omega,by omega⟩
  omega
 have hrl:s.rest.length≤1024:=by
  have h1:=flatMap_ge (f:=fun c:Scrap=>c.edges) (l:=s.rest) fun r hr=>by
   have h2:=(h.scr r hr).two
   obtain⟨v,hv⟩:=List.exists_mem_of_length_pos (l:=r.ends) (by omega)
   rw[(h.scr r hr).ends] at hv
   obtain⟨-,e,he,-⟩:=mem_endsOf.1 hv
   exact List.ne_nil_of_mem he
  have h2:=hpart.length_eq
  rw[List.length_append] at h2
  omega
 obtain⟨hsp,-⟩:=getD_split hi (⟨[],[],[]⟩:Scrap)
 generalize s.rest.getD i ⟨[],[],[]⟩=c at *
 have hc:=h.scr c hcm
 have hcsub:c.edges.Sublist (s.rest.flatMap (·.edges)):=by
  rw[List.flatMap_def]
  exact List.sublist_flatten_of_mem (List.mem_map.2 ⟨c,hcm,rfl⟩)
 have hnd:=(hpart.nodup_iff).2 hbk.en
 have hcn:c.edges.Nodup:=hcsub.nodup (List.nodup_append.1 hnd).2.1
 have hcp:∀ e∈c.edges,e ∉ p.e:=fun e h1 h2=>(List.nodup_append.1 hnd).2.2 e h2 e (hcsub.subset h1) rfl
 have hck:PartOk g ⟨b.v,c.edges⟩:=⟨hbk.vn,hcn,hbk.vr,fun e he=>hbk.er e (hc.sub e he),fun e he=>hbk.ends e (hc.sub e he)⟩
 obtain⟨a,z0,m,hcends⟩:∃ a z0 m,c.ends=a :: z0 :: m:=by
  have:=hc.two
  match hL:c.ends with
  | []=>rw[hL] at this;simp at this
  | [_]=>rw[hL] at this;simp at this
  | a :: z0 :: m=>exact⟨a,z0,m,rfl⟩
 have hen:(a :: z0 :: m).Nodup:=by rw[←hcends,hc.ends];exact endsOf_nodup g s.on c.edges
 have hae:a∈c.ends:=by rw[hcends];simp
 have hze:z0∈c.ends:=by rw[hcends];simp
 have ha1:=hae
 have hz1:=hze
 rw[hc.ends] at ha1 hz1
 obtain⟨hoa,e0,he0,hea⟩:=mem_endsOf.1 ha1
 obtain⟨hoz,e1,he1,hez⟩:=mem_endsOf.1 hz1
 have hza:z0≠a:=fun q=>by rw[q] at hen;simp at hen
 have hd0:∀ d∈(⟨b.v,c.edges⟩:Pt).darts,0≤d:=fun d hd=>by have:=hbk.er _ (hc.sub _ (mem_darts.1 hd));omega
 obtain⟨z,hws⟩:=wayOf_ok (g:=g) (on:=s.on) hck hd0 hc.hang he0 hea he1 hez hoz hza
 have ha0:c.ends.getD 0 0=a:=by rw[hcends];rfl
 have haN:=hends c hcm a hae
 obtain⟨w,hw0⟩:∃ w,wayOf g s.on ⟨b.v,c.edges⟩ a=w:=⟨_,rfl⟩
 rw[hw0] at hws
 have hwi:=hws.way h.on hoa hcp
 have hwne:w≠[]:=fun q=>hws.ne (by have:=hws.link;rw[q] at this;exact this)
 have hzl:g.head (w.getLastD 0)=z:=by
  rcases List.eq_nil_or_concat w with r | ⟨m,e,r⟩
  ·exact absurd r hwne
  rw[List.concat_eq_append] at r
  have:=hws.link
  rw[r] at this ⊢
  rw[List.getLastD_eq_getLast?]
  simpa using link_last this
 have hwc:∀ d∈w,d / 2∈c.edges:=fun d hd=>mem_darts.1 (hws.sub d hd)
 have hzin:z∈c.ends:=by
  rcases List.eq_nil_or_concat w with r | ⟨m,e,r⟩
  ·exact absurd r hwne
  rw[List.concat_eq_append] at r
  have h1:=hws.link
  rw[r] at h1
  rw[hc.ends]
  have h2:=dart_end g e
  rw[link_last h1] at h2
  exact mem_endsOf.2 ⟨hws.oz,e / 2,hwc e (by rw[r];simp),h2.2⟩
 have hzN:=hends c hcm z hzin
 obtain⟨f,fl,hcf⟩:∃ f fl,c.faces=f :: fl:=by
  cases hL:c.faces with
  | nil=>exact absurd hL hf
  | cons f fl=>exact⟨f,fl,rfl⟩
 obtain⟨hf0,hfl2,hfh⟩:=(hc.fcs f).1 (by rw[hcf];simp)
 have hom:s.faces.getD f.toNat []∈s.faces:=by simp[List.getD,hfl2]
 have hod:∀ d∈s.faces.getD f.toNat [],d∈p.darts:=fun d hd=>h.faces.all.mem_iff.1 (List.mem_flatten.2 ⟨_,hom,hd⟩)
 have hdd:∀ d∈p.darts,0≤d∧d / 2<g.e.length:=fun d hd=>by
  have:=hbd _ (hsubE _ (mem_darts.1 hd))
  exact⟨by omega,by omega⟩
 have hol:(s.faces.getD f.toNat []).length≤2048:=by
  have h1:=nodup_of_map (h.faces.simple _ hom)
  have:=small_len (N:=2048) h1 fun u hu=>by
   have:=hdd u (hod u hu)
   exact⟨by omega,by omega⟩
  exact this
 refine⟨a.toNat,z.toNat,f.toNat,w,s.faces.getD f.toNat [],?_⟩
 have ea:((a.toNat:Nat):Int)=a:=by omega
 have ez:((z.toNat:Nat):Int)=z:=by omega
 have ef:((f.toNat:Nat):Int)=f:=by omega
 refine⟨by rw[ea];exact ha0,by omega,by rw[ea];exact h.sub a ((h.on a).1 hoa),⟨hc.two,hendl c hcm⟩,hck,hedge c hcm,?_,by rw[ea];exact hw0,hwne,fun d hd=>?_,?_,by rw[ez];exact hzl,by omega,by rw[ef,hcf];rfl,hfl2,⟨by rw[hcf];simp,hfcl c hcm⟩,rfl,?_,?_,fun d hd=>hdd d (hod d hd),hol,by omega,fun r hr=>⟨hends r hr,hendl r hr,hfcl r hr⟩,hrl⟩
 ·have:=small_len hcn (hedge c hcm)
  omega
 ·have:=hedge c hcm _ (hwc d hd)
  exact⟨by omega,by omega⟩
 ·have h1:=small_len hwi.en fun u hu=>by
   obtain⟨d,hd,rfl⟩:=List.mem_map.1 hu
   exact hedge c hcm _ (hwc d hd)
  rw[List.length_map] at h1
  omega
 ·rw[ea];exact hasV_iff.1 (hfh a hae)
 rw[ez];exact hasV_iff.1 (hfh z hzin)
theorem ixP_find {P:Int→Bool} {l:List Int} (h:∃ x∈l,P x=true):ixP P l=(l.findIdx P:Nat)∧l.findIdx P<l.length:=by
 have h1:l.findIdx P<l.length:=List.findIdx_lt_length_of_exists h
 refine⟨?_,h1⟩
 refine ixP_hit h1 ?_ fun j hj=>?_
 ·simp only[List.getD,List.getElem?_eq_getElem h1,Option.getD_some]
  exact List.findIdx_getElem
 simp only[List.getD,List.getElem?_eq_getElem (show j<l.length by omega),Option.getD_some]
 exact Bool.eq_false_iff.2 (by have:=List.not_of_lt_findIdx hj;simpa using this)
theorem put_is {g:Gr} {b:Pt} {s:Sk} {i N a z f:Nat} {w old:List Int} (h:PutF g b s (s.rest.getD i ⟨[],[],[]⟩) N a z f w old) {k j:Nat} {o:List Int} (hk:old.findIdx (fun d=>decide (g.tail d=(a:Int)))=k) (ho:old.drop k++old.take k=o) (hj:o.findIdx (fun d=>decide (g.tail d=(z:Int)))=j) :
  s.put g b.v i=⟨onTo g s.on w,s.faces.set f (o.take j++twins w)++[w++o.drop j],
   (s.rest.eraseIdx i).map (refit g (s.faces.set f (o.take j++twins w)++[w++o.drop j]) f (s.faces.length:Int))++scraps g (onTo g s.on w) (s.faces.set f (o.take j++twins w)++[w++o.drop j]) (without (s.rest.getD i ⟨[],[],[]⟩).edges w) [(f:Int),(s.faces.length:Int)]⟩:=by
 unfold Sk.put
 simp only[h.a0,h.way,h.z0,h.f0]
 have e:cutFace g (faceAt s.faces (f:Int)) w a z=(o.take j++twins w,w++o.drop j):=by
  unfold cutFace faceAt
  rw[Int.toNat_natCast,h.oldIs]
  simp only
  rw[hk,ho,hj]
 rw[e,Int.toNat_natCast]
end Go.Proofs.Ytbkjljffnkdcjaa.Plain
namespace Go.Proofs.Ytbkjljffnkdcjaa
open Go.RowKit Go.Maps
section
variable {w w' : World} {B n m sz : Nat} {e : TypeId} {v u v' : Value} {xs ys : List Value} {cs ds : List Cell}
theorem Nest.rowFar {own:List Nat} {c:Cell} {x:Value} (h:c.At w B x) (hc:Chg own w w') (ho:∀ j∈own,∃ t,KindAt w j t∧t≠3):c.At w' B x :=
 h.chg hc fun b hb hm=>by
  obtain⟨-,-,cs',r,hh⟩:=h.low b (by simpa using hb)
  obtain⟨t,h1,h2⟩:=ho b hm
  exact h2 (h1.one ⟨_,_,hh⟩)
theorem Nest.vkind (h:Nest w B e sz v n xs cs) (he:e≠3):∀ j∈v.ownBlock.toList,∃ t,KindAt w j t∧t≠3:=fun j hj=>⟨e,own_kind h.out (by simpa using hj),he⟩
theorem Nest.cat (h1:Nest w B e sz v n xs cs) (h2:Nest w B e sz u m ys ds) (he:e≠3) (hap:∀ k l b,k<xs.length→l<ys.length→(xs.getD k undef).ownBlock=Option.some b→(ys.getD l undef).ownBlock≠Option.some b)
  (r1:w'.ownsRow B e sz v' (n+m) (xs++ys)) (r2:Chg v.ownBlock.toList w w'):Nest w' B e sz v' (n+m) (xs++ys) (cs++ds):=by
 have l1:=h1.len
 have l2:=h2.len
 have hk:=h1.vkind he
 refine⟨r1,by simp[l1,l2],by rw[List.length_append,h1.cells,h2.cells,Nat.add_mul],fun k c hkc=>?_,fun k l hk hl hne=>?_⟩
 ·by_cases e1:k<xs.length
  ·rw[getD_left e1]
   rw[List.getElem?_append_left (by omega)] at hkc
   exact Nest.rowFar (h1.fits k c hkc) r2 hk
  rw[getD_right (by omega)]
  rw[List.getElem?_append_right (by omega)] at hkc
  rw[l1]
  exact Nest.rowFar (h2.fits _ c hkc) r2 hk
 rw[List.length_append] at hk hl
 by_cases e1:k<xs.length
 ·rw[getD_left e1]
  by_cases e2:l<xs.length
  ·rw[getD_left e2];exact h1.apart k l e1 e2 hne
  rw[getD_right (by omega)]
  cases hq:(xs.getD k undef).ownBlock with
  | none=>exact Or.inl rfl
  | some b=>exact Or.inr fun q=>hap k _ b e1 (by omega) hq q.symm
 rw[getD_right (by omega)]
 by_cases e2:l<xs.length
 ·rw[getD_left e2]
  cases hq:(ys.getD (k - xs.length) undef).ownBlock with
  | none=>exact Or.inl rfl
  | some b=>exact Or.inr fun q=>hap l _ b e2 (by omega) q.symm hq
 rw[getD_right (by omega)]
 exact h2.apart _ _ (by omega) (by omega) (by omega)
theorem getD_cut {α:Type} {xs:List α} {d:α} {a b k:Nat} (ha:a≤xs.length):(xs.take a++xs.drop b).getD k d=if k<a then xs.getD k d else xs.getD (k - a+b) d:=by
 have hl:(xs.take a).length=a:=by rw[List.length_take];omega
 split
 ·rename_i q
  rw[getD_left (by omega)]
  simp only[List.getD]
  rw[List.getElem?_take,if_pos q]
 rw[getD_right (by omega),hl]
 simp[List.getD,List.getElem?_drop,Nat.add_comm]
theorem getE_cut {α:Type} {xs:List α} {a b k:Nat} (ha:a≤xs.length):(xs.take a++xs.drop b)[k]?=if k<a then xs[k]? else xs[k - a+b]?:=by
 have hl:(xs.take a).length=a:=by rw[List.length_take];omega
 split
 ·rw[List.getElem?_append_left (by omega),List.getElem?_take,if_pos (by assumption)]
 rw[List.getElem?_append_right (by omega),hl,List.getElem?_drop,Nat.add_comm]
theorem Nest.cut {own:List Nat} {n' a b:Nat} (h:Nest w B e sz v n xs cs) (hab:a≤b) (hb:b≤xs.length) (hown:w'.ownsRow B e sz v' n' (xs.take a++xs.drop b)) (hc:Chg own w w') (ho:∀ j∈own,∃ t,KindAt w j t∧t≠3) :
  Nest w' B e sz v' n' (xs.take a++xs.drop b) (cs.take a++cs.drop b):=by
 have hl:=h.len
 have hlen:(xs.take a++xs.drop b).length=xs.length - (b - a):=by rw[List.length_append,List.length_take,List.length_drop];omega
 refine⟨hown,by rw[hlen,List.length_append,List.length_take,List.length_drop];omega,hown.1,fun k c hk=>?_,fun k l hk hl' hne=>?_⟩
 ·rw[getE_cut (by omega)] at hk
  rw[getD_cut (by omega)]
  split
  ·rename_i q;rw[if_pos q] at hk;exact Nest.rowFar (h.fits _ c hk) hc ho
  rename_i q;rw[if_neg q] at hk;exact Nest.rowFar (h.fits _ c hk) hc ho
 rw[hlen] at hk hl'
 rw[getD_cut (by omega),getD_cut (by omega)]
 split <;> split
 ·exact h.apart _ _ (by omega) (by omega) hne
 ·exact h.apart _ _ (by omega) (by omega) (by omega)
 ·exact h.apart _ _ (by omega) (by omega) (by omega)
 exact h.apart _ _ (by omega) (by omega) (by omega)
end
theorem scr3_cut (R:List Plain.Scrap) (i:Nat):scr3 (R.eraseIdx i)=(scr3 R).take (3*i)++(scr3 R).drop (3*i+3):=by
 have ht:∀ (R:List Plain.Scrap) (i:Nat),scr3 (R.take i)=(scr3 R).take (3*i)∧scr3 (R.drop i)=(scr3 R).drop (3*i):=by
  intro R
  induction R with
  | nil=>intro i;simp[scr3]
  | cons c l ih =>
   intro i
   have hs:scr3 (c :: l)=.row c.edges :: .row c.ends :: .row c.faces :: scr3 l:=by simp[scr3]
   cases i with
   | zero=>simp[scr3]
   | succ i =>
    have h:=ih i
    have hs2:scr3 (c :: l.take i)=.row c.edges :: .row c.ends :: .row c.faces :: scr3 (l.take i):=by simp[scr3]
    rw[List.take_succ_cons,List.drop_succ_cons,hs,hs2,h.1,h.2,show 3*(i+1)=3*i+1+1+1 by omega]
    exact⟨rfl,rfl⟩
 rw[List.eraseIdx_eq_take_drop_succ]
 have hap:∀ A C:List Plain.Scrap,scr3 (A++C)=scr3 A++scr3 C:=fun A C=>by simp[scr3]
 rw[hap,(ht R i).1,(ht R (i+1)).2,show 3*(i+1)=3*i+3 by omega]
theorem owns_less {w:World} {B:Nat} {e:TypeId} {sz g n m c:Nat} {xs:List Value} (h:w.ownsRow B e sz (.slice (some ⟨g,0,none⟩) n c) n xs) (hm:m≤n):w.ownsRow B e sz (.slice (some ⟨g,0,none⟩) m c) m (xs.take (m*sz)):=by
 obtain⟨h0,h | ⟨g',cap,cur,e1,h1,h2,h3,h4,h5,h6⟩⟩:=h
 ·cases h.1
 cases e1
 have hle:m*sz≤n*sz:=Nat.mul_le_mul_right _ hm
 refine⟨by rw[List.length_take,h0];exact Nat.min_eq_left hle,Or.inr ⟨g,c,cur,rfl,h1,h2,by omega,h4,h5,?_⟩⟩
 rw[←h6,List.take_take,Nat.min_eq_left hle]
theorem delI_any (g c k B:Nat) (l:List Int) (w:World) (h:RowAt w B (.slice (some ⟨g,0,none⟩) l.length c) l) (hk:k<l.length) :
  Calls Try.prog 39 #[.slice (some ⟨g,0,none⟩) l.length c,.int .i64 (k:Nat),.int .i64 ((k:Int)+1)] w fun e w'=>e=.returned (.slice (some ⟨g,0,none⟩) (l.eraseIdx k).length c)∧RowAt w' B (.slice (some ⟨g,0,none⟩) (l.eraseIdx k).length c) (l.eraseIdx k)∧Chg [g] w w':=by
 have hl:(ints l).length=l.length:=by simp[ints]
 have hel:(l.eraseIdx k).length=l.length - 1:=List.length_eraseIdx_of_lt hk
 have hown:=h.1
 obtain⟨hcap,hmax⟩:l.length≤c∧c≤9223372036854775807:=by
  rcases hown.2 with ⟨q,-⟩ | ⟨g',c',cur,q,-,-,h3,h4,-⟩
  ·cases q
  cases q
  exact⟨h3,by simpa[maxLen] using h4⟩
 rw[←hl] at hown
 have hH:Go.Sort.Holds (Value.int .i64) w g 0 l.toArray:=sorted_holds hown (by simp[ints])
 refine (Try.slices_Delete_int g 0 c k (k+1) l w hH hcap hmax (by omega) (by omega)).mono ?_
 rintro e w' ⟨rfl,n,rfl⟩
 obtain⟨d,hd⟩:∃ d,(l.take k++l.drop (k+1)++List.replicate (k+1 - k) (0:Int))=d:=⟨_,rfl⟩
 have hdl:d.length=l.length:=by
  rw[←hd]
  simp
  omega
 rw[hd]
 have he:Go.Sort.putRow (Value.int .i64) (Go.Sort.ahead w n) g 0 d.toArray=sortWorld (Value.int .i64) w g 0 n d.toArray #[]:=by
  unfold sortWorld
  simp[Go.Sort.grow]
  rfl
 rw[he]
 have hso:=sorted_owns (enc:=Value.int .i64) (n:=n) (os:=#[]) (d:=d.toArray) hown (by simp[hl,hdl])
 have hle:=owns_less hso (m:=l.length - 1) (by rw[hl];omega)
 have hxs:(d.toArray.toList.map (Value.int .i64)).take ((l.length - 1)*1)=ints (l.eraseIdx k):=by
  rw[Nat.mul_one,←List.map_take]
  show List.map _ (d.take (l.length - 1))=List.map _ (l.eraseIdx k)
  congr 1
  rw[←hd,List.eraseIdx_eq_take_drop_succ,List.take_append_of_le_length (by simp;omega),List.take_of_length_le (by simp;omega)]
 rw[hxs] at hle
 refine⟨by rw[hel,show k+1 - k=1 by omega],⟨by rw[hel];exact hle,fun x hx=>h.2.1 x (List.mem_of_mem_eraseIdx hx),by have:=h.2.2;omega⟩,?_⟩
 exact sorted_chg (Value.int .i64) w g n #[] _
namespace Plain
def ixI (l:List Int) (x:Int):Int:=if x∈l then (l.idxOf x:Nat) else -1
theorem idxOf_lib (l:List Int) (x:Int):Go.Lib.idxOf l x=ixI l x:=by
 unfold ixI
 by_cases h:x∈l
 ·rw[if_pos h]
  have h1:l.idxOf x<l.length:=List.idxOf_lt_length_iff.2 h
  have h2:l[l.idxOf x]=x:=List.getElem_idxOf h1
  have:=Go.Lib.idxOf_hit l l.length (l.idxOf x) x h1 (Nat.le_refl _) (by simp only[List.getD,List.getElem?_eq_getElem h1,Option.getD_some];exact h2) (fun j hj e=>by
   have hjl:j<l.length:=by omega
   simp only[List.getD,List.getElem?_eq_getElem hjl,Option.getD_some] at e
   have h3:=List.not_of_lt_findIdx (p:=(·==x)) (xs:=l) (i:=j) hj
   simp at h3
   exact h3 e)
  rwa[List.take_length] at this
 rw[if_neg h]
 have:=Go.Lib.idxOf_miss l l.length x (fun j hj e=>h (by rw[←e];simp[List.getD,hj]))
 rwa[List.take_length] at this
theorem ixI_hit {l:List Int} {x:Int} (h:x∈l):ixI l x=(l.idxOf x:Nat)∧l.idxOf x<l.length∧l.eraseIdx (l.idxOf x)=l.erase x :=
 ⟨if_pos h,List.idxOf_lt_length_iff.2 h,(List.erase_eq_eraseIdx_of_idxOf rfl).symm⟩
end Plain
theorem idxI_any (v:Value) (l:List Int) (x:Int) (B:Nat) (w:World) (hn:l.length<1000000000) (h:RowAt w B v l) :
  Calls Try.prog 38 #[v,.int .i64 x] w fun e w'=>e=.returned (.int .i64 (Plain.ixI l x))∧Chg [] w w':=by
 obtain⟨ao,c,rfl⟩:=h.shape
 by_cases h0:l=[]
 ·subst h0
  refine (Try.slices_Index_int_empty ao c x w).mono ?_
  rintro e w' ⟨rfl,rfl⟩
  exact⟨rfl,Chg.refl _ _⟩
 obtain⟨g,hg,hc⟩:=h.some (List.length_pos_iff.2 h0)
 subst hg
 refine (Try.slices_Index_int g 0 l.length c l x w (Nat.le_refl _) (by omega) (fun j hj=>by rw[Nat.zero_add];exact hc j hj)).mono ?_
 rintro e w' ⟨rfl,rfl⟩
 exact⟨ret_int (by rw[List.take_length];exact Plain.idxOf_lib l x),Chg.refl _ _⟩
end Go.Proofs.Ytbkjljffnkdcjaa
