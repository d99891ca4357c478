/- ref08.Regions: its contract: the regions of a drawing. Conditions: a drawing that lies in memory and reads so, of a bounded size. -/
import Derived.Test.YtkacjmoamgjfpaaGreatA9Ref8W
namespace Go.Proofs.YtkacjmoamgjfpaaGreat
open Go.RowKit Go.Maps
namespace aA
def iK (same:List (List Int)) (key:Int):List (List Int):=match same.find? (fun l=>decide (key∈l)) with
 | none=>[[key]]
 | some l=>if l.getD 0 0=key then [l] else []
def iV (W:List aO) (same:List (List Int)) (i:Nat):List (List Int):=(W.take i).flatMap fun f=>iK same f.1
theorem aC0 (W:List aO) (same:List (List Int)):iV W same 0=[]:=by simp[iV]
theorem qN {W:List aO} {same:List (List Int)} {i:Nat} (hi:i<W.length):iV W same (i+1)=iV W same i++iK same (W.getD i (0,[])).1:=by
 unfold iV;rw[jP hi,List.flatMap_append];simp
theorem tQ (same:List (List Int)) (key:Int):(iK same key).length≤1:=by
 unfold iK;split
 ·simp
 split <;> simp
theorem sR (W:List aO) (same:List (List Int)):∀ i,(iV W same i).length≤i
 | 0=>by simp[iV]
 | i+1=>by
  by_cases h:i<W.length
  ·rw[qN h,List.length_append]
   have:=sR W same i;have:=tQ same (W.getD i (0,[])).1;omega
  unfold iV;rw[List.take_of_length_le (by omega)];have:=sR W same W.length;unfold iV at this;rw[List.take_length] at this;omega
theorem aAC {same:List (List Int)} {key:Int} {l:List Int} (h:l∈iK same key):l.getD 0 0=key:=by
 unfold iK at h;split at h
 ·simp at h;subst h;rfl
 split at h
 ·rename_i q;simp at h;subst h;exact q
 cases h
theorem aGM {g:Gr} {p:Pt} {aB same:List (List Int)} (h:fS g p aB same):iO g p aB same (iV (aH g p aB) same (aH g p aB).length):=by
 have hkeys:=dF h.part h.walks;obtain⟨W,hW⟩:∃ W,aH g p aB=W:=⟨_,rfl⟩;have hk2:=h.keys;have hall:=h.oJ;have hne:=h.ne;unfold eQ at hall hne;rw[hW] at hkeys hk2 hall hne ⊢;have hheads:∀ i,i≤W.length→((iV W same i).map fun l=>l.getD 0 0).Sublist ((W.take i).map (·.1)):=by
  intro i
  induction i with
  | zero=>intro _;simp[iV]
  | succ i ih =>
   intro hi;rw[qN (by omega),jP (by omega),List.map_append,List.map_append];refine (ih (by omega)).append ?_;have h1:=tQ same (W.getD i (0,[])).1;cases hs:iK same (W.getD i (0,[])).1 with
   | nil=>simp
   | cons a r =>
    rw[hs] at h1;have:r=[]:=by cases r;rfl;simp at h1
    subst this;have:=aAC (l:=a) (by rw[hs];simp);simp only[List.map_cons,List.map_nil,this];exact List.Sublist.refl _
 have hpw:(iV W same W.length).Pairwise fun a b=>a.getD 0 0<b.getD 0 0:=by
  have h1:=hheads W.length (Nat.le_refl _);rw[List.take_length] at h1;have:=hkeys.sublist h1;rwa[List.pairwise_map] at this
 refine⟨?_,hpw.imp fun hab=>by omega⟩;have hn1:(iV W same W.length).Nodup:=hpw.imp fun hab e=>by rw[e] at hab;omega
 have hn2:(eQ g p aB same).Nodup:=by
  unfold eQ;rw[hW];refine (List.Pairwise.imp_of_mem ?_ (cV.1 hall).2);intro a b ha _ hab e;subst e;exact hab _ (head_mem (hne a ha)) _ (head_mem (hne a ha)) rfl
 refine (List.perm_ext_iff_of_nodup hn1 hn2).2 fun l=>?_;unfold eQ iV;rw[hW,List.take_length,List.mem_flatMap,List.mem_append];unfold dM;rw[List.mem_map];constructor
 ·rintro ⟨f,hf,hl⟩
  unfold iK at hl;split at hl
  ·rename_i hno
   rw[List.find?_eq_none] at hno;simp at hl;subst hl;refine Or.inr ⟨f,List.mem_filter.2 ⟨hf,decide_eq_true fun hm=>?_⟩,rfl⟩;obtain⟨m,hm1,hm2⟩:=List.mem_flatten.1 hm;exact hno m hm1 (decide_eq_true hm2)
  rename_i m hm;split at hl
  ·simp at hl;subst hl;exact Or.inl (List.mem_of_find?_eq_some hm)
  cases hl
 rintro (hl | ⟨f,hf,rfl⟩)
 ·have hlne:=hne l (List.mem_append.2 (Or.inl hl))
  have hh:=head_mem hlne;obtain⟨f,hf,hfe⟩:=List.mem_map.1 (hk2 _ (List.mem_flatten.2 ⟨l,hl,hh⟩));refine⟨f,hf,?_⟩;have hfe:f.1=l.getD 0 0:=hfe;unfold iK;cases hm:same.find? fun l=>decide (f.1∈l) with
  | none =>
   rw[List.find?_eq_none] at hm;exact absurd (decide_eq_true (by rw[hfe];exact hh)) (hm l hl)
  | some m =>
   have h1:f.1∈m:=by have:=List.find?_some hm;simpa using this
   have e:m=l:=xI h.nodup (List.mem_of_find?_eq_some hm) hl h1 (by rw[hfe];exact hh);subst e;show m∈if m.getD 0 0=f.1 then [m] else []
   rw[if_pos hfe.symm];simp
 obtain⟨hf1,hf2⟩:=List.mem_filter.1 hf;have hf2:=of_decide_eq_true hf2;refine⟨f,hf1,?_⟩;unfold iK;rw[List.find?_eq_none.2 fun m hm=>by
  simp only[decide_eq_true_eq];exact fun q=>hf2 (List.mem_flatten.2 ⟨m,hm,q⟩)]
 simp
def jH (same:List (List Int)) (key:Int) (k:Nat):List Int × Bool:=match (same.take k).find? (fun l=>decide (key∈l)) with
 | none=>([key],true)
 | some l=>(l,decide (l.getD 0 0=key))
theorem aCk (same:List (List Int)) (key:Int):jH same key 0=([key],true):=by simp[jH]
theorem aDu {same:List (List Int)} {key:Int} {k:Nat} (hk:k<same.length) (h:key ∉ same.getD k []):jH same key (k+1)=jH same key k:=by
 have e:same.getD k []=same[k]:=by simp[List.getD,hk]
 rw[e] at h;unfold jH;rw[List.take_succ_eq_append_getElem hk,List.find?_append,List.find?_cons_of_neg (by simpa using h)];simp
theorem aEw {same:List (List Int)} {key:Int} {k:Nat} (hn:same.flatten.Nodup) (hk:k<same.length) (h:key∈same.getD k []):jH same key (k+1)=(same.getD k [],decide ((same.getD k []).getD 0 0=key)):=by
 have e:same.getD k []=same[k]:=by simp[List.getD,hk]
 rw[e] at h ⊢;have hno:(same.take k).find? (fun l=>decide (key∈l))=none:=by
  rw[List.find?_eq_none];intro m hm;simp only[decide_eq_true_eq];intro q;obtain⟨i,hi,rfl⟩:=List.getElem_of_mem hm;rw[List.length_take] at hi;rw[List.getElem_take] at q;have:=List.pairwise_iff_getElem.1 (cV.1 hn).2 i k (by omega) hk (by omega) key q key h;exact this rfl
 unfold jH;rw[List.take_succ_eq_append_getElem hk,List.find?_append,hno,List.find?_cons_of_pos (by simpa using h)];rfl
theorem aCM (same:List (List Int)) (key:Int):iK same key=if (jH same key same.length).2=true then [(jH same key same.length).1] else []:=by
 unfold iK jH;rw[List.take_length];cases same.find? fun l=>decide (key∈l) with
 | none=>rfl
 | some l =>
  by_cases h:l.getD 0 0=key
  ·simp only[h,if_true,decide_true]
  simp only[h,if_false,decide_false,Bool.false_eq_true]
end aA
theorem aCB {w:World} {B:Nat} {e:TypeId} {sz:Nat} {v:Value} {n:Nat} {xs:List Value} (h:w.ownsRow B e sz v n xs) {b:Nat} (hb:v.ownBlock=some b):∃ cs,w.heap[b]?=some (.cells cs e (0,0)):=by
 rcases h.2 with ⟨rfl,_⟩ | ⟨g,c,cur,rfl,_,hg,_⟩
 ·cases hb
 simp only[Value.ownBlock,Option.some.injEq] at hb;subst hb;exact⟨_,hg⟩
def Safe (w:World) (B:Nat) (v:Value):Prop:=∀ a n c,v=.slice (some a) n c→a.block<B∨∃ cs r,w.heap[a.block]?=some (.cells cs 3 r)
theorem Safe.chg {w w':World} {B:Nat} {v:Value} {own:List Nat} (h:Safe w B v) (hc:Chg own w w') (ho:∀ j∈own,B≤j∧∀ cs t r,w.heap[j]?=some (.cells cs t r)→t≠3):Safe w' B v:=by
 intro a n c e;rcases h a n c e with q | ⟨cs,r,q⟩
 ·exact Or.inl q
 exact Or.inr ⟨cs,r,hc.heap q fun hm=>(ho _ hm).2 _ _ _ q rfl⟩
structure fR (w:World) (B:Nat) (ov:Value) (vs:List Value) (ll:List (List Int)):Prop where
 out:w.ownsRow B 27 1 ov vs.length vs
 len:vs.length=ll.length
 rows:∀ k,k<vs.length→aL w (vs.getD k undef) (ll.getD k [])∧gI (vs.getD k undef)∧Safe w B (vs.getD k undef)
theorem fR.nil (w:World) (B:Nat):fR w B (.slice none 0 0) [] []:=⟨World.ownsRow_nil _ _ _ _,rfl,by simp⟩
theorem aL.safe {w w':World} {B:Nat} {v:Value} {l:List Int} {own:List Nat} (h:aL w v l) (hs:Safe w B v) (hc:Chg own w w') (ho:∀ j∈own,B≤j∧∀ cs t r,w.heap[j]?=some (.cells cs t r)→t≠3):aL w' v l :=
 h.chg hc fun b n c e hm=>by
  rcases hs b n c e with q | ⟨cs,r,q⟩
  ·have:=(ho _ hm).1;omega
  exact (ho _ hm).2 _ _ _ q rfl
theorem fR.fresh {w w':World} {B:Nat} {ov:Value} {vs:List Value} {ll:List (List Int)} (h:fR w B ov vs ll) (hc:Chg [] w w'):fR w' B ov vs ll :=
 ⟨cR h.out hc (by simp),h.len,fun k hk=>by obtain⟨h1,h2,h3⟩:=h.rows k hk;exact⟨h1.fresh hc,h2,h3.chg hc (by simp)⟩⟩
theorem fR.read {w:World} {B:Nat} {ov:Value} {vs:List Value} {ll:List (List Int)} (h:fR w B ov vs ll):cG w ov ll:=by
 have hlen:=h.len;rcases h.out.2 with ⟨rfl,h0⟩ | ⟨g,cap,cur,rfl,-,-,hn,hc,-,-⟩
 ·have:ll=[]:=List.length_eq_zero_iff.1 (by omega)
  subst this;exact⟨none,0,rfl,by decide,fun i hi=>absurd hi (by simp)⟩
 refine⟨_,cap,by rw[hlen],by unfold maxLen at hc;omega,fun i hi2=>?_⟩;have hiv:i<vs.length:=by omega
 obtain⟨h1,h2,-⟩:=h.rows i hiv;have hcell:=h.out.cellAt i (by omega);refine⟨g,0,vs.getD i undef,rfl,?_,h2,h1⟩;rw[Nat.zero_add,hcell];simp[List.getD,hiv]
theorem vA {w0 w:World} {B:Nat} {ov v:Value} {vs:List Value} {ll:List (List Int)} {l:List Int} (h:fR w0 B ov vs ll) (hB:B≤w0.heap.size) (hv:aL w0 v l) (hcp:gI v) (hs:Safe w0 B v) (hn:vs.length<68719476736)
  (hw:w=w0.alloc (.cells #[v] 27)∨w=(w0.alloc (.cells #[v] 27)).drew) (ty:TypeId) :
  ∃ g cap w',(Builtin.append_ #[30,30] ty #[ov,.slice (some ⟨w0.heap.size,0,none⟩) 1 1]).run Tryz.prog w=.ok (.slice (some ⟨g,0,none⟩) (vs.length+1) cap) w' ∧
   fR w' B (.slice (some ⟨g,0,none⟩) (vs.length+1) cap) (vs++[v]) (ll++[l])∧Chg ov.ownBlock.toList w0 w':=by
 obtain⟨va,vn,vc,rfl,-,-⟩:=id hcp;obtain⟨g,cap,w',hr,r2,r3,r4⟩:=mY nC h.out hB (cs:=#[.slice va vn vc]) rfl (lH _ _ _) hn hw ty;have hlen:=h.len;have ho:∀ j∈ov.ownBlock.toList,B≤j∧∀ cs t r,w0.heap[j]?=some (.cells cs t r)→t≠3:=by
  intro j hj;obtain⟨cs',hh⟩:=aCB h.out (by simpa using hj);refine⟨(h.out.lt j (by simpa using hj)).1,fun cs t r q=>?_⟩;rw[hh] at q;simp at q;obtain⟨-,rfl,-⟩:=q;decide
 refine⟨g,cap,w',hr,⟨by simpa using r2,by simp[hlen],fun k hk=>?_⟩,r3⟩;by_cases e:k<vs.length
 ·rw[jN e,jN (by omega)]
  obtain⟨h1,h2,h3⟩:=h.rows k e;exact⟨h1.safe h3 r3 ho,h2,h3.chg r3 ho⟩
 have:k=vs.length:=by simp at hk;omega
 subst this;rw[iP (by omega),iP (by omega),Nat.sub_self,show vs.length - ll.length=0 by omega];exact⟨hv.safe hs r3 ho,hcp,hs.chg r3 ho⟩
theorem aL.zX {w:World} {B:Nat} {ao:Option Addr} {n c:Nat} {l:List Int} (h:aL w (.slice ao n c) l) (hl:0<l.length) (hB:w.heap.size≤B) (w':World):Safe w' B (.slice ao n c):=by
 obtain⟨b,off,rfl,hc⟩:=h.cellAt hl;intro a n' c' e;simp only[Value.slice.injEq,Option.some.injEq] at e;obtain⟨rfl,-,-⟩:=e;have:b<w.heap.size:=World.block_lt_of_cell? w _ hc;exact Or.inl (by show b<B;omega)
theorem aM.safe {w:World} {B B':Nat} {v:Value} {l:List Int} (h:aM w B' v l):Safe w B v:=by
 intro a n c e;obtain⟨cs,r,q⟩:=cE h a.block (by rw[h.aP,e];simp[Value.ownBlock]);exact Or.inr ⟨cs,r,q⟩
set_option maxRecDepth 100000 in
set_option maxHeartbeats 8000000 in
theorem kE (vg vp vx:Value) (g:aA.Gr) (p:aA.Pt) (aB same:List (List Int)) (w:World) (hpl:p.e.length≤1000) (hpv:p.v.length≤1000) (hrl:∀ v,(aA.aX aB v).length<4294967296) (hsl:same.length≤10000) (hz:aA.aN g p aB same=0) (hg:dW w vg g) (hp:gC w vp p) (hx:jX w vx aB same) :
  Calls Tryz.prog 32 #[vg,vp,vx] w fun e w'=>∃ ov,e=.returned ov∧cG w' ov (aA.aJ g p aB same)∧Chg [] w w':=by
 have hte:=(aA.bY (aA.cX hz).1).1;obtain⟨hpe,hto⟩:=aA.bC hte;have hW:=aA.bS hpe hto;have hpt:=aA.iN hz hW;have HPE:=lh hpe;have HTO:=lh hto;have HRL:=lh hrl;have HND:=lh hpt.nodup;have HTW:=lh hpt.two;have hwl:=hW.len;have HREG:=lh ((aA.aGM hpt).eq hpt);have HKS:=lh (fun f (hf:f∈aA.aH g p aB)=>(show I64 f.1 from by have:=aA.sZ hpe hW hf;exact I64.mk (by omega) (by omega)));clear hte hpe hto hW hpt hrl hz;have HG:=lh hg;have HP:=lh hp;have HX:=lh hx;obtain⟨eo,cap,rfl,hn,hm,hsm,hcell⟩:=hg;obtain⟨v1,v2,rfl,hv,he⟩:=hp;obtain⟨ao,ac,rfl,has,ham,hacell⟩:=hv;obtain⟨bo,bc,rfl,hbs,hbm,hbcell⟩:=he;have HAC:=lh hacell;have HBC:=lh hbcell;obtain⟨t1,t2,rfl,ht,hs⟩:=hx;have HT:=lh ht;have HS:=lh hs;obtain⟨tno,tc,rfl,htm,-⟩:=ht;obtain⟨so,sc,rfl,hsm2,hsc⟩:=hs;obtain⟨-,-,hc1⟩:=cK w #[.int .i64 g.n,.slice eo g.e.length cap] #[.slice ao p.v.length ac,.slice bo p.e.length bc] 24 29;obtain⟨-,hc3⟩:=jA w #[.int .i64 g.n,.slice eo g.e.length cap] #[.slice ao p.v.length ac,.slice bo p.e.length bc] #[.slice tno aB.length tc,.slice so same.length sc] 24 29 32;have HC1:=lh (hc1.t hc3);have HBXS:=lh (fun w2 h=>gK w (g:=g) (p:=p) (aB:=aB) (same:=same) (eo:=eo) (ao:=ao) (bo:=bo) (tno:=tno) (so:=so) (cap:=cap) (ac:=ac) (bc:=bc) (tc:=tc) (sc:=sc) (w2:=w2) h);clear hcell hacell hbcell hsm hbs has hn hc1 hc3 hsc;obtain⟨x0,x1,y0,y1,z0,z1,hsz⟩:=HBXS.out _ (Chg.refl _ _)
 go_enter Tryz.func32,Tryz.ntmps32
 go_wp2_with fail
 refine (mP _ _ _ g p aB _ (by omega) (by omega) HPE.out HTO.out HRL.out (HG.out.fresh HC1.out) (HP.out.fresh HC1.out) (HT.out.fresh HC1.out)).mono ?_;rintro e w2 ⟨wv,wx,rfl,hnw,hc2⟩;obtain⟨w1,hw1⟩:∃ w1,(((w.alloc (.cells #[.int .i64 g.n,.slice eo g.e.length cap] 24)).alloc (.cells #[.slice ao p.v.length ac,.slice bo p.e.length bc] 29)).alloc (.cells #[.slice tno aB.length tc,.slice so same.length sc] 32))=w1:=⟨_,rfl⟩;rw[hw1] at HC1 HBXS hc2 hnw;clear hw1;obtain⟨wo,wc,rfl⟩:=hnw.shape;have HNW:=lh hnw;have HC2:=lh hc2;have HW2:=lh (HC1.out.t HC2.out);have HBX:=lh (fun wx (hx:Chg [] w2 wx)=>HBXS.out wx (HC2.out.t hx));have HB:=lh (show w.heap.size≤w2.heap.size from HW2.out.size);clear x0 x1 y0 y1 z0 z1 hsz hc2 hnw;obtain⟨W,hWe⟩:∃ W,aA.aH g p aB=W:=⟨_,rfl⟩;have HWE:=lh hWe;rw[hWe] at hwl HNW HREG HKS ⊢;clear hWe;go_wp2
 go_loopw [8,9] (fun ov c wr=>∃ (i:Nat) (vs:List Value),i≤W.length∧c=.int .i64 i∧fR wr w2.heap.size ov vs (aA.iV W same i)∧Chg [] w2 wr) (fun _ c _=>W.length - (intOf c).toNat)
 case atStart=>exact⟨0,[],Nat.zero_le _,rfl,by rw[aA.aC0];exact fR.nil _ _,Chg.refl _ _⟩
 case round =>
  obtain⟨i,vs,hi,rfl,hro,hc⟩:=hrel;have HRO:=lh hro;obtain⟨oo,oc,rfl⟩:=bR hro.out;have hvl:vs.length≤i:=by rw[hro.len];exact aA.sR _ _ _
  have HC:=lh hc;clear hro hc;by_cases hil:i<W.length
  ·obtain⟨wg,wcc,fa,fc,ewo,u0,-,-⟩:=fZ HNW.out rfl hil
   simp only[Value.slice.injEq] at ewo;obtain⟨rfl,-,rfl⟩:=ewo;have U0:=lh u0;have hik:=HKS.out (W.getD i (0,[])) (by simp[List.getD,hil]);have HTS:=lh (aA.qN (same:=same) hil);obtain⟨key,hkey⟩:∃ key,(W.getD i (0,[])).1=key:=⟨_,rfl⟩;rw[hkey] at U0 hik HTS;have f0:=HC.out.c U0.out;have HLIT:=lh (aM.ints (mM (w:=wr) (B:=wr.heap.size) (Nat.le_refl _) hik));have HLS:=lh (aM.safe (B:=w2.heap.size) (mM (w:=wr) (B:=wr.heap.size) (Nat.le_refl _) hik));have HCL:=lh ((Chg.refl [] wr).alloc (.cells #[.int .i64 key] 3));have HR0:=lh (aA.aCk same key);clear u0 hkey;go_wp2;clear f0;obtain⟨n,hn⟩:∃ n,vs.length=n:=⟨_,rfl⟩;have HN:=lh hn;rw[hn] at hvl ⊢;clear hn
   go_loopw [10,11,12] (fun lv bv c wi=>∃ k:Nat,k≤same.length∧c=.int .i64 k∧aL wi lv (aA.jH same key k).1∧gI lv∧Safe wi w2.heap.size lv∧bv=.bool (aA.jH same key k).2∧Chg [] wr wi) (fun _ _ c _=>same.length - (intOf c).toNat)
   case atStart=>exact⟨0,Nat.zero_le _,rfl,by rw[HR0.out];exact HLIT.out,⟨_,1,1,rfl,by omega,by omega⟩,HLS.out,by rw[HR0.out],HCL.out⟩
   case round =>
    rename World=>wi;obtain⟨k,hk,rfl,hcur,hcap,hsafe,rfl,hci⟩:=hrel;have HCUR:=lh hcur;have HCAP:=lh hcap;have HSF:=lh hsafe;have HCI:=lh hci;have HC2I:=lh (HC.out.t hci);obtain⟨lo,lc,rfl,-,-,-⟩:=hcur;clear hcap hsafe hci;obtain⟨x0,x1,y0,y1,z0,z1,hsz⟩:=HBX.out wi HC2I.out;by_cases hkl:k<same.length
    ·obtain⟨sb,soff,u,rfl,scell,scap,srow⟩:=(HS.out.fresh (HW2.out.t HC2I.out)).aGG hkl
     obtain⟨sb',soff',u',e2,scell',-,srow'⟩:=HS.out.aGG hkl;obtain⟨rfl,rfl⟩:sb=sb'∧soff=soff':=by simpa using e2
     have eu:u'=u:=by
      have:=(HW2.out.t HC2I.out).c scell';rw[scell] at this;simpa using this.symm
     subst eu;have HRI:=lh (fun h=>aA.aEw (key:=key) HND.out hkl h);have HRO2:=lh (fun h=>aA.aDu (key:=key) hkl h);have hlt2:=HTW.out (same.getD k []) (by simp[List.getD,hkl]);obtain⟨l,hl⟩:∃ l,same.getD k []=l:=⟨_,rfl⟩;rw[hl] at srow srow' HRI HRO2 hlt2;have HSR:=lh srow;have HSCAP:=lh scap;obtain⟨so2,sc2,rfl,-,-,-⟩:=id srow;have HSS:=lh (fun w'=>srow'.zX (B:=w2.heap.size) (by omega) HB.out w');have f0:=HC2I.out.c U0.out;clear e2 scell' srow' srow scap hl;go_wp2;have hS0:Chg [] wi wi.drew:=(Chg.refl [] wi).drew;refine aF (Chg [] wi) [0,1,2,3,4,5,6,7,8,9] (Way.line [0,1,2,3,4,5,6,7,8,9,10] .done) (by kernel_rfl) (by kernel_rfl) ?_;simp only[Way.line]
     repeat
      first
       | (refine aE rfl (by rfl) (by rfl) (fun _ _ _ h=>h) hS0 ?_;simp only[Act.put,Z1,Z2,Z3,Z4,Z5,Z6])
       | (refine aC (v:=?_) rfl (by rfl) (by rfl) (fun _ _ _ h=>h) hS0 (fun w' hS'=>?_) ?_;rotate_left;(focus (have rd0:=hS'.c z1;have rd1:=hS'.c scell;have rd2:=hS'.c f0;clear hS';go_simp;try with_reducible rfl));simp only[Act.put,Z1,Z2,Z3,Z4,Z5,Z6])
       | (refine aD rfl (by rfl) (by rfl) hS0 ?_;simp only[Act.put,Z1,Z2,Z3,Z4,Z5,Z6])
     refine aI rfl (by rfl) (by rfl) (fun K hK=>?_);go_simp;refine (gD _ l key _ (HSR.out.fresh hS0)).mono ?_;rintro e w7 ⟨rfl,hcx⟩;have hS1:=hS0.t hcx;clear hS0 hcx;have hS0:=hS1;clear hS1;refine hK.out _ _ (fun _=>hS0) ?_;clear hK K
     try simp only[Act.put,Z1,Z2,Z3,Z4,Z5,Z6]
     refine aG ?_;have HC7:=lh (HCI.out.t hS0);have HCUR7:=lh (HCUR.out.fresh hS0);have HSF7:=lh (HSF.out.chg hS0 (by simp));have HSR7:=lh (HSR.out.fresh hS0);have z1:=hS0.c z1;have scell:=hS0.c scell;have f0:=hS0.c f0;clear hS0 x0 x1 y0 y1 z0 hsz;by_cases hin:key∈l
     ·rw[decide_eq_true hin]
      have HE:=lh (HRI.out hin);obtain⟨lb,loff,rfl,c0⟩:=aL.cellAt HSR7.out (show 0<l.length by omega);rw[Nat.add_zero] at c0;obtain⟨h0,hh0⟩:∃ h0,l.getD 0 0=h0:=⟨_,rfl⟩;rw[hh0] at c0 HE;have hl0:(0:Int)<(l.length:Int):=by omega
      have hl0n:0<l.length:=by omega
      clear hin hh0;go_wp2;have hS0:Chg [] w7 w7.drew:=(Chg.refl [] w7).drew;refine aF (Chg [] w7) [0,1,2,3,4,5,6,7,8,9] (Way.line [0,1,2,3,4,5,6,7,8,9] .done) (by kernel_rfl) (by kernel_rfl) ?_;simp only[Way.line]
      repeat
       first
        | (refine aE rfl (by rfl) (by rfl) (fun _ _ _ h=>h) hS0 ?_;simp only[Act.put,Z1,Z2,Z3,Z4,Z5,Z6])
        | (refine aC (v:=?_) rfl (by rfl) (by rfl) (fun _ _ _ h=>h) hS0 (fun w' hS'=>?_) ?_;rotate_left;(focus (have rd0:=hS'.c c0;have rd1:=hS'.c f0;clear hS';go_simp;try with_reducible rfl));simp only[Act.put,Z1,Z2,Z3,Z4,Z5,Z6])
        | (refine aD rfl (by rfl) (by rfl) hS0 ?_;simp only[Act.put,Z1,Z2,Z3,Z4,Z5,Z6])
      refine aG ?_;have HC8:=lh (HC7.out.t hS0);have HSR8:=lh (HSR7.out.fresh hS0);have HSS8:=lh (HSS.out w7.drew);clear hS0 c0 f0 z1 scell;have hbq:(h0==key)=decide (h0=key):=rfl;by_cases q:h0=key
      ·have b1:(h0==key)=true:=by rw[beq_iff_eq];exact q
       have HE2:=lh (HE.out.trans (by rw[decide_eq_true q]));clear q hbq;go_wp2
       go_roundw
       case rel=>exact⟨k+1,by omega,by go_num,by rw[HE2.out];exact HSR8.out,HSCAP.out,HSS8.out,by rw[HE2.out];exact congrArg Value.bool b1,HC8.out⟩
       case measure=>simp[intOf];omega
      have b1:(h0==key)=false:=by rw[beq_eq_false_iff_ne];exact q
      have HE2:=lh (HE.out.trans (by rw[decide_eq_false q]));clear q hbq;go_wp2
      go_roundw
      case rel=>exact⟨k+1,by omega,by go_num,by rw[HE2.out];exact HSR8.out,HSCAP.out,HSS8.out,by rw[HE2.out];exact congrArg Value.bool b1,HC8.out⟩
      case measure=>simp[intOf];omega
     rw[decide_eq_false hin];have HE:=lh (HRO2.out hin);clear hin z1 scell f0;go_wp2
     go_roundw
     case rel=>exact⟨k+1,by omega,by go_num,by rw[HE.out];exact HCUR7.out,HCAP.out,HSF7.out,by rw[HE.out],HC7.out⟩
     case measure=>simp[intOf];omega
    have e:k=same.length:=by omega
    subst e;have HST:=lh (aA.aCM same key);obtain⟨⟨cl,cb⟩,hcc⟩:∃ cc,aA.jH same key same.length=cc:=⟨_,rfl⟩;rw[hcc] at HCUR HST HCAP HSF ⊢;have HRO6:=lh (HRO.out.fresh HCI.out);clear hcc;cases cb with
    | false =>
     have HE:=lh (show aA.iV W same (i+1)=aA.iV W same i from by rw[HTS.out,HST.out];simp);go_wp2
     go_roundw
     case rel=>exact⟨i+1,vs,by omega,by go_num,by rw[HE.out];rw[HN.out] at HRO6;exact HRO6.out,HC2I.out⟩
     case measure=>simp[intOf];omega
    | true =>
     have HE:=lh (show aA.iV W same (i+1)=aA.iV W same i++[cl] from by rw[HTS.out,HST.out];simp);obtain⟨g5,q5,w5,hr5,hro5,hc5⟩:=vA HRO6.out HC2I.out.size HCUR.out HCAP.out HSF.out (by have:=HN.out;omega) (Or.inl rfl) 30;rw[HN.out] at hr5 hro5 hc5;have HRO5:=lh hro5;have HC5:=lh (HC2I.out.trans hc5 (fun j hj=>Or.inr (by have:=HRO6.out.out.lt j (by rw[HN.out];simpa using hj);exact this.1)));clear hro5 hc5
     go_wp2_with (at_builtin;refine gB rfl (.tmp 63) (.tmp 65) 30 rfl rfl rfl hr5 ?_)
     go_roundw
     case rel=>exact⟨i+1,_,by omega,by go_num,by rw[HE.out];exact HRO5.out,HC5.out⟩
     case measure=>simp[intOf];omega
  have e:i=W.length:=by omega
  subst e;have HRD:=lh HRO.out.read;rw[HREG.out] at HRD;have HCF:=lh (HW2.out.t HC.out);obtain⟨n,hn⟩:∃ n,vs.length=n:=⟨_,rfl⟩;rw[hn] at HRD ⊢;clear hn;go_wp2;go_ret;exact⟨_,rfl,HRD.out,HCF.out⟩
end Go.Proofs.YtkacjmoamgjfpaaGreat
namespace Go.Proofs.YtkacjmoamgjfpaaGreat.aA
def marks (f:aO):List Int:=if f.2=[] then [f.1] else f.2
def dK (W:List aO):List (List Int):=W.map marks
def nP (ll:List (List Int)) (i j:Nat):Int→Option Int:=fun y=>if y∈seen ll i j then (cY ll y).map fun (k:Nat)=>(k:Int) else none
theorem aBc (ll:List (List Int)):nP ll 0 0=fun _=>none:=by funext y;simp[nP,mD]
theorem aC5 {ll:List (List Int)} (hn:ll.flatten.Nodup) {i j:Nat} (hi:i<ll.length) (hj:j<(ll.getD i []).length):(fun y=>if y=(ll.getD i []).getD j 0 then some (i:Int) else nP ll i j y)=nP ll i (j+1):=by
 funext y
 unfold nP;rw[mF hj];by_cases e:y=(ll.getD i []).getD j 0
 ·rw[if_pos e,if_pos (by rw[e];simp),e,hZ hn hi (aZ hj)];rfl
 rw[if_neg e];by_cases h:y∈seen ll i j
 ·rw[if_pos h,if_pos (by simp[h])]
 rw[if_neg h,if_neg (fun hm=>(List.mem_append.1 hm).elim h fun q=>e (List.mem_singleton.1 q))]
theorem aFw {ll:List (List Int)} {i:Nat} (hi:i<ll.length):nP ll i (ll.getD i []).length=nP ll (i+1) 0:=by funext y;unfold nP;rw[rF hi]
theorem aEp (ll:List (List Int)):nP ll ll.length 0=fun y=>(cY ll y).map fun (k:Nat)=>(k:Int):=by
 funext y
 unfold nP;rw[rG];by_cases h:y∈ll.flatten
 ·rw[if_pos h]
 rw[if_neg h,lS.2 h];rfl
def numOf (ll:List (List Int)) (key:Int):Int:=((cY ll key).map fun (k:Nat)=>(k:Int)).getD 0
def kI (ll:List (List Int)) (W:List aO) (i j:Nat):Int→Option Int:=fun y=>if y∈seen (dK W) i j then (cY (dK W) y).map fun (k:Nat)=>numOf ll (W.getD k (0,[])).1 else none
def leftOf (ll:List (List Int)) (W:List aO):Int→Option Int:=fun y=>(cY (dK W) y).map fun (k:Nat)=>numOf ll (W.getD k (0,[])).1
theorem aAq (ll:List (List Int)) (W:List aO):kI ll W 0 0=fun _=>none:=by funext y;simp[kI,mD]
theorem aBs {ll:List (List Int)} {W:List aO} (hn:(dK W).flatten.Nodup) {i j:Nat} (hi:i<(dK W).length) (hj:j<((dK W).getD i []).length) :
  (fun y=>if y=((dK W).getD i []).getD j 0 then some (numOf ll (W.getD i (0,[])).1) else kI ll W i j y)=kI ll W i (j+1):=by
 funext y
 unfold kI;rw[mF hj];by_cases e:y=((dK W).getD i []).getD j 0
 ·rw[if_pos e,if_pos (by rw[e];simp),e,hZ hn hi (aZ hj)];rfl
 rw[if_neg e];by_cases h:y∈seen (dK W) i j
 ·rw[if_pos h,if_pos (by simp[h])]
 rw[if_neg h,if_neg (fun hm=>(List.mem_append.1 hm).elim h fun q=>e (List.mem_singleton.1 q))]
theorem aCz {ll:List (List Int)} {W:List aO} {i:Nat} (hi:i<(dK W).length):kI ll W i ((dK W).getD i []).length=kI ll W (i+1) 0:=by funext y;unfold kI;rw[rF hi]
theorem aDc (ll:List (List Int)) (W:List aO):kI ll W (dK W).length 0=leftOf ll W:=by
 funext y
 unfold kI leftOf;rw[rG];by_cases h:y∈(dK W).flatten
 ·rw[if_pos h]
 rw[if_neg h,lS.2 h];rfl
theorem oH (W:List aO):(dK W).length=W.length:=by simp[dK]
theorem nI {W:List aO} {i:Nat} (hi:i<W.length):(dK W).getD i []=marks (W.getD i (0,[])):=by
 unfold dK List.getD;rw[List.getElem?_map,List.getElem?_eq_getElem hi];rfl
theorem iZ {f:aO} (h:f.2=[]):marks f=[f.1]:=if_pos h
theorem fU {f:aO} (h:f.2≠[]):marks f=f.2:=if_neg h
theorem sK {g:Gr} {p:Pt} {aB:List (List Int)} {W:List aO} (hpe:p.err g=0) (hW:bV g p aB W) {f:aO} (hf:f∈W) {y:Int} (hy:y∈marks f):(y<0∧f.2=[]∧f.1=y)∨(0≤y∧y∈p.aK∧y∈f.2):=by
 rcases qL hpe hW hf with ⟨h1,h2,h3,-⟩ | ⟨d,l,h1,h2,h3,-⟩
 ·rw[iZ h1] at hy
  simp at hy;exact Or.inl ⟨by omega,h1,hy.symm⟩
 rw[fU (by rw[h2];simp)] at hy;right;obtain⟨F,e,hT⟩:=hW.split;have hm:f∈F:=by
  rw[e] at hf;rcases List.mem_append.1 hf with q | q
  ·obtain⟨v,-,rfl⟩:=List.mem_map.1 q
   cases h2
  exact q
 have hyd:=hT.sub y (List.mem_flatten.2 ⟨f.2,List.mem_map.2 ⟨f,hm,rfl⟩,hy⟩);have:=Pt.pU hpe (bN.1 hyd);exact⟨by omega,hyd,hy⟩
theorem kU {g:Gr} {p:Pt} {aB:List (List Int)} {W:List aO} (hpe:p.err g=0) (hW:bV g p aB W):(dK W).flatten.Nodup:=by
 have hk:=dF hpe hW;rw[cV];obtain⟨F,e,hT⟩:=hW.split;have hFn:=cV.1 hT.rings.nodup;refine⟨fun l hl=>?_,?_⟩
 ·obtain⟨f,hf,rfl⟩:=List.mem_map.1 hl
  by_cases h:f.2=[]
  ·rw[iZ h];simp
  rw[fU h];rw[e] at hf;rcases List.mem_append.1 hf with q | q
  ·obtain⟨v,-,rfl⟩:=List.mem_map.1 q
   exact absurd rfl h
  exact hFn.1 _ (List.mem_map.2 ⟨f,q,rfl⟩)
 unfold dK;rw[List.pairwise_map];rw[List.pairwise_map] at hk;refine hk.imp_of_mem ?_;intro a b ha hb hab x hx y hy exy;subst exy;rcases sK hpe hW ha hx with ⟨h1,-,h2⟩ | ⟨h1,-,h2⟩
 ·rcases sK hpe hW hb hy with ⟨-,-,k2⟩ | ⟨k1,-,-⟩
  ·omega
  omega
 rcases sK hpe hW hb hy with ⟨k1,-,-⟩ | ⟨-,-,k2⟩
 ·omega
 have hma:a∈F:=by
  rw[e] at ha;rcases List.mem_append.1 ha with q | q
  ·obtain⟨v,-,rfl⟩:=List.mem_map.1 q;simp at h2
  exact q
 have hmb:b∈F:=by
  rw[e] at hb;rcases List.mem_append.1 hb with q | q
  ·obtain⟨v,-,rfl⟩:=List.mem_map.1 q;simp at k2
  exact q
 have:=xI hT.rings.nodup (List.mem_map.2 ⟨a,hma,rfl⟩) (List.mem_map.2 ⟨b,hmb,rfl⟩) h2 k2;obtain⟨la,ea⟩:=hT.key a hma;obtain⟨lb,eb⟩:=hT.key b hmb;rw[ea,eb] at this;have:a.1=b.1:=by simpa using (List.cons.inj this).1
 omega
theorem tE (ll:List (List Int)) (key:Int):0≤numOf ll key∧numOf ll key≤ll.length:=by
 unfold numOf;cases h:cY ll key with
 | none=>simp
 | some k =>
  have:=(tW h).1;simp;omega
theorem aFX {g:Gr} {p:Pt} {aB:List (List Int)} {W:List aO} (_hpe:p.err g=0) (hW:bV g p aB W) {f:aO} (hf:f∈W):f.2.length≤2*p.e.length:=by
 obtain⟨F,e,hT⟩:=hW.split;rw[e] at hf;rcases List.mem_append.1 hf with q | q
 ·obtain⟨v,-,rfl⟩:=List.mem_map.1 q
  simp
 have hn:=(cV.1 hT.rings.nodup).1 _ (List.mem_map.2 ⟨f,q,rfl⟩);have:=cQ hn (m:=p.aK) fun y hy=>hT.sub y (List.mem_flatten.2 ⟨f.2,List.mem_map.2 ⟨f,q,rfl⟩,hy⟩);rwa[dO] at this
end Go.Proofs.YtkacjmoamgjfpaaGreat.aA
namespace Go.Proofs.YtkacjmoamgjfpaaGreat
open Go.RowKit Go.Maps
set_option maxRecDepth 100000 in
set_option maxHeartbeats 8000000 in
theorem aEY (vg vp vx:Value) (g:aA.Gr) (p:aA.Pt) (aB same:List (List Int)) (w:World) (hpl:p.e.length≤10000) (hpv:p.v.length≤10000) (hTL:aB.length<2147483648) (hS:aA.bU aB aB.length<2147483648) (hsl:same.length≤10000) (hsr:∀ i,(same.getD i []).length≤10000) (hg:dW w vg g) (hp:gC w vp p) (hx:jX w vx aB same) :
  Calls Tryz.prog 87 #[vg,vp,vx] w fun e w'=>∃ mv,e=.returned (.tuple #[mv,.int .i64 (aA.aN g p aB same)])∧(aA.aN g p aB same≠0→mv=.map none) ∧
   (aA.aN g p aB same=0→∃ lb,mv=.map (some lb)∧w.heap.size≤lb∧cA w' lb 1000000000000 (aA.leftOf (aA.aJ g p aB same) (aA.aH g p aB))∧(aA.aJ g p aB same).length≤30000)∧Chg [] w w':=by
 have HS1:=lh hS;have HSR:=lh hsr;clear hS hsr;have HG:=lh hg;have HP:=lh hp;have HX:=lh hx;obtain⟨eo,cap,rfl,hn,hm,hsm,hcell⟩:=hg;obtain⟨v1,v2,rfl,hv,he⟩:=hp;obtain⟨ao,ac,rfl,has,ham,hacell⟩:=hv;obtain⟨bo,bc,rfl,hbs,hbm,hbcell⟩:=he;have HAC:=lh hacell;have HBC:=lh hbcell;obtain⟨t1,t2,rfl,ht,hs⟩:=hx;have HT:=lh ht;have HS:=lh hs;obtain⟨tno,tc,rfl,htm,-⟩:=ht;obtain⟨so,sc,rfl,hsm2,hsc⟩:=hs;obtain⟨-,-,hc1⟩:=cK w #[.int .i64 g.n,.slice eo g.e.length cap] #[.slice ao p.v.length ac,.slice bo p.e.length bc] 24 29;obtain⟨-,hc3⟩:=jA w #[.int .i64 g.n,.slice eo g.e.length cap] #[.slice ao p.v.length ac,.slice bo p.e.length bc] #[.slice tno aB.length tc,.slice so same.length sc] 24 29 32;have HC1:=lh (hc1.t hc3);have HBXS:=lh (fun w2 h=>gK w (g:=g) (p:=p) (aB:=aB) (same:=same) (eo:=eo) (ao:=ao) (bo:=bo) (tno:=tno) (so:=so) (cap:=cap) (ac:=ac) (bc:=bc) (tc:=tc) (sc:=sc) (w2:=w2) h);clear hcell hacell hbcell hsm hbs has hn hc1 hc3 hsc;obtain⟨x0,x1,y0,y1,z0,z1,hsz⟩:=HBXS.out _ (Chg.refl _ _)
 go_enter Tryz.func87,Tryz.ntmps87
 go_wp2_with fail
 refine (oT _ _ _ g p aB same _ (by omega) (by omega) hTL HS1.out hsl HSR.out (HG.out.fresh HC1.out) (HP.out.fresh HC1.out) (HX.out.fresh HC1.out)).mono ?_;rintro e w2 ⟨ov,rfl,herr,hres,hc2⟩;obtain⟨w1,hw1⟩:∃ w1,(((w.alloc (.cells #[.int .i64 g.n,.slice eo g.e.length cap] 24)).alloc (.cells #[.slice ao p.v.length ac,.slice bo p.e.length bc] 29)).alloc (.cells #[.slice tno aB.length tc,.slice so same.length sc] 32))=w1:=⟨_,rfl⟩;rw[hw1] at HC1 HBXS hc2;clear hw1;have HC2:=lh hc2;have HW2:=lh (HC1.out.t HC2.out);have HBX:=lh (fun wx (hx:Chg [] w2 wx)=>HBXS.out wx (HC2.out.t hx));clear x0 x1 y0 y1 z0 z1 hsz hc2;by_cases hz:aA.aN g p aB same=0
 ·obtain⟨vs,ll,h1,h2,h3,h4⟩:=hres hz
  have hpt:=aA.iN hz h4;have hreg:aA.iO g p aB same ll:=⟨h2,h3⟩;have hsm:=aA.qK hpt hreg;have hwl:=h4.len;have HRD:=lh (h1.read fun l hl=>⟨fun x hx=>((hsm l hl).1 x hx).1,by have:=(hsm l hl).2;omega⟩);have hflat:=(h2.flatten).trans hpt.all;have HND:=lh (show ll.flatten.Nodup from hflat.nodup_iff.2 hpt.mJ);have HPN:=lh (aA.kU hpt.part hpt.walks);have HLS:=lh (fun l hl x hx=>((hsm l hl).1 x hx).1);have HLL:=lh (fun l hl=>Nat.le_trans (hsm l hl).2 (show (aA.aH g p aB).length≤30000 by omega));have hlln:ll.length≤30000:=by
   have h5:∀ {s:List (List Int)},(∀ l∈s,l≠[])→s.length≤s.flatten.length:=by
    intro s
    induction s with
    | nil=>simp
    | cons a s ih =>
     intro hs;have:=ih fun l hl=>hs l (by simp[hl]);have:=List.length_pos_iff.2 (hs a (by simp));rw[List.flatten_cons,List.length_append,List.length_cons];omega
   have h6:=h5 fun l hl=>hpt.ne l (h2.mem_iff.1 hl);have h7:=hflat.length_eq;rw[List.length_map] at h7;omega
  have HLE:=lh (show ll=aA.aJ g p aB same from hreg.eq hpt);have HTE:=lh (show aA.bE g p aB=0 from aA.fV hpt.part hpt.turns);have HPE:=lh hpt.part;have HWK:=lh hpt.walks;have HPZ:=lh hz;have HN0:=lh (aA.aBc ll);have HNA:=lh (aA.aEp ll);have hvl:vs.length=ll.length:=h1.len;obtain⟨oo,oc,rfl⟩:=bR h1.out;rw[hz];rw[hvl] at HRD ⊢;clear hres herr h1 h2 h3 h4 hz hpt hreg hsm hflat hvl;have hmm:=@run_makeMap Tryz.prog;go_wp2;clear hmm;have HM0:=lh (cA.made w2);have HC4:=lh ((Chg.refl [] w2).alloc (.map #[] 0));obtain⟨nb,hnb⟩:∃ nb,w2.heap.size=nb:=⟨_,rfl⟩;rw[hnb] at HM0 ⊢;have HNB:=lh (show w2.heap.size≤nb by omega);clear hnb;generalize w2.alloc (.map #[] 0)=w4 at *
  go_loopw [35] (fun c wr=>∃ i:Nat,i≤ll.length∧c=.int .i64 i∧cA wr nb (i*1000000) (aA.nP ll i 0)∧Chg [] w2 wr) (fun c _=>ll.length - (intOf c).toNat)
  case atStart=>exact⟨0,Nat.zero_le _,rfl,by rw[Nat.zero_mul,HN0.out];exact HM0.out,HC4.out⟩
  case round =>
   obtain⟨i,hi,rfl,hm,hc⟩:=hrel;have HM:=lh hm;have HC:=lh hc;clear hm hc;by_cases hil:i<ll.length
   ·obtain⟨tb,toff,uo,uc,rfl,tcell,hrow⟩:=(HRD.out.fresh HC.out).row hil
    have hmm:ll.getD i []∈ll:=by simp[List.getD,hil]
    have HNX:=lh (fun j hj=>aA.aC5 (j:=j) HND.out hil hj);have HNR:=lh (aA.aFw hil);have HLS2:=lh (HLS.out _ hmm);have hll2:=HLL.out _ hmm;obtain⟨T,hT⟩:∃ T,ll.getD i []=T:=⟨_,rfl⟩;rw[hT] at tcell hrow HNX HNR HLS2 hll2;have HROW:=lh hrow;have II:I64 (i:Int):=I64.mk (by omega) (by omega);clear hrow hmm hT;go_wp2;clear tcell
    go_loopw [42] (fun c wi=>∃ j:Nat,j≤T.length∧c=.int .i64 j∧cA wi nb (i*1000000+j) (aA.nP ll i j)∧Chg [nb] wr wi) (fun c _=>T.length - (intOf c).toNat)
    case atStart=>exact⟨0,Nat.zero_le _,rfl,HM.out.mono (by omega),Chg.refl _ _⟩
    case round =>
     rename World=>wi;obtain⟨j,hj,rfl,hm,hc⟩:=hrel;have HMJ:=lh hm;have HCJ:=lh hc;have HC2J:=lh (HC.out.trans hc (fun j hj=>Or.inr (by simp at hj;have:=HNB.out;omega)));clear hm;by_cases hjl:j<T.length
     ·obtain⟨rb,roff,rfl,rc⟩:=aL.cellAt HROW.out hjl
      have hne:rb≠nb:=fun e=>HM.out.pK rc e;have rcell:=hc.cell rc (by simpa using hne);have IY:=HLS2.out (T.getD j 0) (aA.aZ hjl);have HNJ:=lh (HNX.out j hjl);obtain⟨y,hy⟩:∃ y,T.getD j 0=y:=⟨_,rfl⟩;rw[hy] at rcell IY HNJ;have hmx:i*1000000+j<maxLen:=by unfold maxLen;omega
      clear rc hne hc hy
      go_wp2_with (at_mapUpdate;refine fX _ rfl _ _ _ rfl HMJ.out hmx rfl IY II rfl rfl ?_;intro w6 m6 g6;have M6:=lh m6;have G6:=lh g6;clear m6 g6)
      go_roundw
      case rel=>exact⟨j+1,by omega,by go_num,by have:=M6.out;rw[HNJ.out] at this;exact this.mono (by omega),HCJ.out.grown G6.out (fun j hj=>by cases hj;exact Or.inl (by simp))⟩
      case measure=>simp[intOf];omega
     have e:j=T.length:=by omega
     subst e;clear hc;go_wp2
     go_roundw
     case rel=>exact⟨i+1,by omega,by go_num,by rw[←HNR.out];exact HMJ.out.mono (by omega),HC2J.out⟩
     case measure=>simp[intOf];omega
   have e:i=ll.length:=by omega
   subst e;rw[HNA.out] at HM;generalize wr=wz at *;obtain⟨x0,x1,y0,y1,z0,z1,hsz⟩:=HBX.out wz HC.out;have x0n:=fun o=>bG x0 o;have x1n:=fun o=>bG x1 o;have y0n:=fun o=>bG y0 o;have y1n:=fun o=>bG y1 o;have z0n:=fun o=>bG z0 o;have hmm:=@run_makeMap Tryz.prog;have HWZ:=lh (HW2.out.t HC.out);have hcn:=(Chg.refl [] wz).alloc (.map #[] 0);have HCN:=lh hcn;have HL0:=lh (cA.made wz);have HMA:=lh (HM.out.chg hcn (by simp));have HLB:=lh (show w.heap.size≤wz.heap.size from HWZ.out.size);have HNLT:=lh (show nb<wz.heap.size from HM.out.lt);clear x0 x1 y0 y1 z0 z1 hsz hcn
   go_wp2_with fail
   clear hmm x0n x1n y0n y1n z0n;generalize hw9:wz.alloc (.map #[] 0)=w9 at *;obtain⟨lb,hlb⟩:∃ lb,wz.heap.size=lb:=⟨_,rfl⟩;rw[hlb] at HL0 HLB HNLT ⊢;have HLBE:=lh hlb;have HW9:=lh (HWZ.out.t HCN.out);clear hw9 hlb;refine (mB _ _ _ g p aB _ (by omega) (by omega) hTL HS1.out (HG.out.fresh HW9.out) (HP.out.fresh HW9.out) (HT.out.fresh HW9.out)).mono ?_;rintro e w5 ⟨ovw,rfl,-,hw2,hc5⟩;obtain⟨W0,xw,hwk,hnw⟩:=hw2 HTE.out;have hwe:=hwk.eq HPE.out;subst hwe;obtain⟨wo,wcap,rfl⟩:=hnw.shape;have HNW:=lh hnw;have HM5:=lh (HMA.out.chg hc5 (by simp));have HL5:=lh (HL0.out.chg hc5 (by simp));have HW5:=lh (HW9.out.t hc5);have HLF0:=lh (aA.aAq ll (aA.aH g p aB));have HLFA:=lh (aA.aDc ll (aA.aH g p aB));have HPL:=lh (aA.oH (aA.aH g p aB));have HFL:=lh (fun f hf=>aA.aFX (f:=f) HPE.out HWK.out hf);have HFC:=lh (fun f hf=>aA.qL (g:=g) (f:=f) HPE.out HWK.out hf);have HLZ:=lh (show wz.heap.size≤lb by have:=HLBE.out;omega);rw[HTE.out];obtain⟨W,hW⟩:∃ W,aA.aH g p aB=W:=⟨_,rfl⟩;have HWE:=lh hW;rw[hW] at hwl HNW HPN HLF0 HLFA HPL HFC HFL ⊢;clear hnw hw2 hwk hc5 hW;go_wp2
   go_loopw [62] (fun c wr=>∃ i:Nat,i≤W.length∧c=.int .i64 i∧cA wr nb (ll.length*1000000) (fun y=>(aA.cY ll y).map fun (k:Nat)=>(k:Int))∧cA wr lb (i*1000000) (aA.kI ll W i 0)∧Chg [lb] w5 wr) (fun c _=>W.length - (intOf c).toNat)
   case atStart=>exact⟨0,Nat.zero_le _,rfl,HM5.out,by rw[Nat.zero_mul,HLF0.out];exact HL5.out,Chg.refl _ _⟩
   case round =>
    obtain⟨i,hi,rfl,hmn,hml,hc⟩:=hrel;have HMN:=lh hmn;have HML:=lh hml;have HC:=lh hc;clear hmn hml hc;by_cases hil:i<W.length
    ·obtain⟨wg,wcc,fa,fc,ewo,u0,u1,ur⟩:=fZ HNW.out rfl hil
     simp only[Value.slice.injEq] at ewo;obtain⟨rfl,-,rfl⟩:=ewo;have hng:wg≠lb:=fun e=>HL5.out.pK u0 e;have f0:=HC.out.cell u0 (by simpa using hng);have f1:=HC.out.cell u1 (by simpa using hng);have hfm:W.getD i (0,[])∈W:=by simp[List.getD,hil]
     have hfc:=HFC.out _ hfm;have hpi:i<(aA.dK W).length:=by rw[HPL.out];exact hil
     have hpg:=aA.nI hil;have HLX:=lh (fun j hj=>aA.aBs (ll:=ll) (W:=W) (j:=j) HPN.out hpi hj);have HLR:=lh (aA.aCz (ll:=ll) (W:=W) hpi);rw[hpg] at HLX HLR;have UR:=lh ur.ints;obtain⟨f,hf⟩:∃ f,W.getD i (0,[])=f:=⟨_,rfl⟩;rw[hf] at f0 f1 hfc HLX HLR UR;have hIK:I64 f.1:=by rcases hfc with ⟨-,h2,h3,-⟩ | ⟨d,l,h1,-,-,-,h4,-⟩ <;> exact I64.mk (by omega) (by omega)
     have HIK:=lh hIK;have HNM:=lh (aA.tE ll f.1);obtain⟨num,hnum⟩:∃ num,aA.numOf ll f.1=num:=⟨_,rfl⟩;have HFN:Hid (((fun y=>(aA.cY ll y).map fun (k:Nat)=>(k:Int)) f.1).getD 0=num):=lh hnum;rw[hnum] at HLX HNM;have IV:I64 num:=I64.mk (by have:=HNM.out;omega) (by have:=HNM.out;omega);have hfl:f.2.length≤1000000 - 1:=by
      rw[←hf];have h1:=HFL.out _ hfm;omega
     clear u0 u1 ur hng hfm hpi hpg hnum hIK;go_wp2;clear f0 f1;have hbx:=(Chg.refl [] wr).alloc (.cells #[.int .i64 f.1,.slice fa f.2.length fc] 120);have hnew:=heap_alloc_new wr (.cells #[.int .i64 f.1,.slice fa f.2.length fc] 120);have B0:=lh ((cell_of_row _ _ 0 _ _ _ hnew).trans (show _=some (Value.int .i64 f.1) from rfl));have B1:=lh ((cell_of_row _ _ 1 _ _ _ hnew).trans (show _=some (Value.slice fa f.2.length fc) from rfl));have b1:=B1.out;have HCQ:=lh (HC.out.t hbx);have HMNQ:=lh (HMN.out.chg hbx (by simp));have HMLQ:=lh (HML.out.chg hbx (by simp));have HWB:=lh (show lb<wr.heap.size from HML.out.lt);obtain⟨wb,hwb⟩:∃ wb,wr.heap.size=wb:=⟨_,rfl⟩;rw[hwb] at B0 B1 b1 HWB ⊢;generalize (wr.alloc (.cells #[.int .i64 f.1,.slice fa f.2.length fc] 120))=wq at *;clear hbx hnew hwb;go_wp2;clear b1
     go_loopw [69] (fun c wi=>∃ j:Nat,j≤f.2.length∧c=.int .i64 j∧cA wi nb (ll.length*1000000) (fun y=>(aA.cY ll y).map fun (k:Nat)=>(k:Int))∧cA wi lb (i*1000000+j) (aA.kI ll W i j)∧Chg [lb] wq wi) (fun c _=>f.2.length - (intOf c).toNat)
     case atStart=>exact⟨0,Nat.zero_le _,rfl,HMNQ.out,HMLQ.out.mono (by omega),Chg.refl _ _⟩
     case round =>
      rename World=>wi;obtain⟨j,hj,rfl,hmn,hml,hc⟩:=hrel;have HMNJ:=lh hmn;have HMLJ:=lh hml;have HCJ:=lh hc;have HC5J:=lh (HCQ.out.trans hc (fun j hj=>Or.inl hj));have hwbl:wb ∉ [lb]:=by have:=HWB.out;simp;omega
      have b0:=hc.cell B0.out hwbl;have b1:=hc.cell B1.out hwbl;clear hmn hml hc;by_cases hjl:j<f.2.length
      ·obtain⟨rb,roff,rfl,rc⟩:=aL.cellAt UR.out hjl
       have hne:rb≠lb:=fun e=>HL5.out.pK rc e;have rcell:=HC5J.out.cell rc (by simpa using hne);have IY:I64 (f.2.getD j 0):=by obtain⟨_,_,-,h,-,-⟩:=UR.out;exact h _ (aA.aZ hjl)
       have hms:aA.marks f=f.2:=aA.fU (by intro e;rw[e] at hjl;simp at hjl);have HLJ:=lh (HLX.out j (by rw[hms];exact hjl));rw[hms] at HLJ;obtain⟨y,hy⟩:∃ y,f.2.getD j 0=y:=⟨_,rfl⟩;rw[hy] at rcell IY HLJ;have hmx:i*1000000+j<maxLen:=by unfold maxLen;omega
       have hnl:nb ∉ [lb]:=by have:=HNLT.out;simp;omega
       have HNL:=lh hnl;clear rc hne hy hms hnl b1
       go_wp2_with (first
        | (at_lookup;refine gU _ rfl _ _ rfl HMNJ.out rfl HIK.out rfl HFN ?_)
        | (at_mapUpdate;refine fX _ rfl _ _ _ rfl HMLJ.out hmx rfl IY IV rfl rfl ?_;intro w6 m6 g6;have M6:=lh m6;have G6:=lh g6;clear m6 g6))
       go_roundw
       case rel =>
        have hg:=(Chg.refl [lb] wi).grown G6.out (fun j hj=>by cases hj;exact Or.inl (by simp));exact⟨j+1,by omega,by go_num,HMNJ.out.chg hg HNL.out,by have:=M6.out;rw[HLJ.out] at this;exact this.mono (by omega),HCJ.out.trans hg (fun j hj=>Or.inl hj)⟩
       case measure=>simp[intOf];omega
      have e:j=f.2.length:=by omega
      subst e;by_cases hl0:f.2=[]
      ·have hms:aA.marks f=[f.1]:=aA.iZ hl0
       have HLJ:=lh (HLX.out 0 (by rw[hms];simp));rw[hms] at HLJ HLR;have hz0:f.2.length=0:=by rw[hl0];rfl
       rw[hz0] at HMLJ b1 ⊢;have hmx:i*1000000+0<maxLen:=by unfold maxLen;omega
       have HNL:=lh (show nb ∉ [lb] by have:=HNLT.out;simp;omega);clear hms hl0 hjl hj
       go_wp2_with (first
        | (at_lookup;refine gU _ rfl _ _ rfl HMNJ.out rfl HIK.out rfl HFN ?_)
        | (at_mapUpdate;refine fX _ rfl _ _ _ rfl HMLJ.out hmx rfl HIK.out IV rfl rfl ?_;intro w6 m6 g6;have M6:=lh m6;have G6:=lh g6;clear m6 g6))
       go_roundw
       case rel =>
        have hg:=(Chg.refl [lb] wi).grown G6.out (fun j hj=>by cases hj;exact Or.inl (by simp));exact⟨i+1,by omega,by go_num,HMNJ.out.chg hg HNL.out,by have:=M6.out;rw[show ([f.1]:List Int).getD 0 0=f.1 from rfl] at HLJ;rw[HLJ.out] at this;rw[←HLR.out];exact this.mono (by omega),HC5J.out.trans hg (fun j hj=>Or.inl hj)⟩
       case measure=>simp[intOf];omega
      have hms:aA.marks f=f.2:=aA.fU hl0;rw[hms] at HLR;have bl:((f.2.length:Int)==0)=false:=by
       rw[beq_eq_false_iff_ne];have:=List.length_pos_iff.2 hl0;omega
      clear hms hl0;go_wp2
      go_roundw
      case rel=>exact⟨i+1,by omega,by go_num,HMNJ.out,by rw[←HLR.out];exact HMLJ.out.mono (by omega),HC5J.out⟩
      case measure=>simp[intOf];omega
    have e:i=W.length:=by omega
    subst e;rw[←HPL.out,HLFA.out] at HML;have HMF:=lh (HML.out.mono (show (aA.dK W).length*1000000≤1000000000000 by rw[HPL.out];omega));have HCF:=lh (HW5.out.trans HC.out (fun j hj=>Or.inr (by simp at hj;have:=HLB.out;omega)));go_wp2;exact bodyPost_ret (v:=.tuple #[.map (some lb),.int .i64 0]) (by simp[results,Tryz.results87,go_sem]) rfl ⟨_,by rw[HPZ.out],fun h=>absurd HPZ.out h,fun _=>⟨lb,rfl,HLB.out,by rw[HWE.out,←HLE.out];exact HMF.out,by rw[←HLE.out];exact hlln⟩,HCF.out⟩
 have hov:=herr hz;subst hov;have hzb:((aA.aN g p aB same) != 0)=true:=by simp[hz]
 clear hres herr;obtain⟨er,her⟩:∃ er,aA.aN g p aB same=er:=⟨_,rfl⟩;have HER:=lh her;rw[her] at hzb hz ⊢;have HNZ:=lh hz;clear hz her;go_wp2;exact bodyPost_ret (v:=.tuple #[.map none,.int .i64 er]) (by simp[results,Tryz.results87,go_sem]) rfl ⟨_,by rw[HER.out],fun _=>rfl,fun h=>absurd (HER.out.symm.trans h) HNZ.out,HW2.out⟩
end Go.Proofs.YtkacjmoamgjfpaaGreat
