/- Darts, turns: the aFW ahead of one in a list, in rings. No program here. -/
import Derived.Test.YtkacjmoamgjfpaaGreatA9Perm
import Derived.Test.YtkacjmoamgjfpaaGreatRows
import Derived.WalkLawsBesides
import Derived.WalkSpells
import Derived.Maps.OwnSet
import Derived.Maps.RangeWalk
import Derived.Maps.AppendAt
import Derived.Defers
import Derived.Recover
import Derived.Lib.Hide
namespace Go.Proofs.YtkacjmoamgjfpaaGreat.aA
def dE (d:Int):Int:=if d % 2=0 then d+1 else d - 1
def Gr.tail (g:Gr) (d:Int):Int:=if d % 2=0 then (g.at (d / 2)).1 else (g.at (d / 2)).2
def Gr.head (g:Gr) (d:Int):Int:=if d % 2=0 then (g.at (d / 2)).2 else (g.at (d / 2)).1
def Pt.aK (p:Pt):List Int:=p.e.flatMap fun e=>[2*e,2*e+1]
theorem pO (d:Int):dE (dE d)=d:=by unfold dE;split <;> split <;> omega
theorem aA0 (d:Int):dE d / 2=d / 2:=by unfold dE;split <;> omega
theorem fH (g:Gr) (d:Int):g.tail (dE d)=g.head d:=by
 unfold Gr.tail Gr.head;rw[aA0];unfold dE;split
 ·rw[if_neg (by omega)]
 rw[if_pos (by omega)]
theorem bN {p:Pt} {d:Int}:d∈p.aK↔d / 2∈p.e:=by
 unfold Pt.aK;simp only[List.mem_flatMap,List.mem_cons,List.not_mem_nil,or_false];constructor
 ·rintro ⟨e,he,rfl | rfl⟩
  ·rwa[show 2*e / 2=e by omega]
  rwa[show (2*e+1) / 2=e by omega]
 intro h;exact⟨d / 2,h,by omega⟩
theorem jD {p:Pt} {d:Int} (h:d∈p.aK):dE d∈p.aK:=by rw[bN] at *;rwa[aA0]
theorem eR {p:Pt} (h:p.e.Nodup):p.aK.Nodup:=by
 unfold Pt.aK;generalize p.e=l at *
 induction l with
 | nil=>simp
 | cons e l ih =>
  rw[List.nodup_cons] at h;rw[List.flatMap_cons,List.nodup_append];refine⟨by simp;omega,ih h.2,fun a ha b hb=>?_⟩;have hb':b / 2∈l:=bN (p:=⟨[],l⟩).1 hb;rintro rfl;have:a / 2=e:=by simp at ha;omega
  exact h.1 (this ▸ hb')
theorem dO (p:Pt):p.aK.length=2*p.e.length:=by
 unfold Pt.aK;generalize p.e=l
 induction l with
 | nil=>rfl
 | cons e l ih=>rw[List.flatMap_cons,List.length_append,ih];simp;omega
theorem wV {p:Pt} (h:p.e.Nodup):cF dE (p.e.map fun e=>[2*e,2*e+1]):=by
 refine⟨fun c hc=>?_,?_⟩
 ·obtain⟨e,_,rfl⟩:=List.mem_map.1 hc
  show dE (2*e)=2*e+1∧dE (2*e+1)=2*e;unfold dE;rw[if_pos (by omega),if_neg (by omega)];omega
 have:=eR h;rwa[Pt.aK,List.flatMap_def] at this
def ahead (l:List Int) (x:Int):Int:=l.getD ((l.idxOf x+l.length - 1) % l.length) 0
def behind (l:List Int) (x:Int):Int:=l.getD ((l.idxOf x+1) % l.length) 0
theorem aCf {p:Int→Int} {z:Int}:∀ {l:List Int} {x:Int},(∀ i,i<l.length→p ((x :: l).getD i 0)=(x :: l).getD (i+1) 0)→p ((x :: l).getD l.length 0)=z→Trail p x l z
 | [],x,_,h=>by show p x=z;simpa using h
 | y :: l,x,h,hz=>by
  refine⟨by simpa using h 0 (by simp),aCf (fun i hi=>?_) (by simpa using hz)⟩;have:=h (i+1) (by simpa using hi);simpa using this
theorem nZ {l:List Int} (hn:l.Nodup) {i:Nat} (hi:i<l.length):l.idxOf (l.getD i 0)=i:=by
 have e:l.getD i 0=l[i]:=by simp[List.getD,hi]
 rw[e];have h1:l.idxOf l[i]<l.length:=List.idxOf_lt_length_iff.2 (List.getElem_mem hi);have h2:l[l.idxOf l[i]]=l[i]:=List.getElem_idxOf h1;exact (List.getElem_inj hn).1 h2
theorem nE (l:List Int) (i:Nat) (hi:i<l.length):l.reverse.getD i 0=l.getD (l.length - 1 - i) 0:=by
 simp[List.getD,hi,show l.length - 1 - i<l.length by omega]
theorem qW {l:List Int} (hn:l.Nodup) (h0:l≠[]):Ring (ahead l) l.reverse:=by
 have hl:0<l.length:=List.length_pos_iff.2 h0;have key:∀ i,i<l.length→ahead l (l.reverse.getD i 0)=l.reverse.getD (if i+1=l.length then 0 else i+1) 0:=by
  intro i hi;have e1:ahead l (l.reverse.getD i 0)=l.getD ((l.length - 1 - i+l.length - 1) % l.length) 0:=by
   rw[nE l i hi];unfold ahead;rw[nZ hn (by omega)]
  rw[e1];split
  ·rename_i h
   rw[nE l 0 hl]
   congr 1
   rw[show l.length - 1 - i+l.length - 1=l.length - 1 by omega,Nat.mod_eq_of_lt (by omega)];omega
  rename_i h;rw[nE l (i+1) (by omega)]
  congr 1
  rw[show l.length - 1 - i+l.length - 1=(l.length - 1 - (i+1))+l.length by omega,Nat.add_mod_right,Nat.mod_eq_of_lt (by omega)]
 have hlen:l.reverse.length=l.length:=by simp
 generalize l.reverse=r at *;cases r with
 | nil=>simp at hlen;omega
 | cons x r =>
  simp only[List.length_cons] at hlen;refine aCf (fun i hi=>?_) ?_
  ·rw[key i (by omega),if_neg (by omega)]
  rw[key r.length (by omega),if_pos (by omega)];rfl
def aX (aB:List (List Int)) (v:Int):List Int:=aB.getD v.toNat []
structure aW (g:Gr) (p:Pt) (aB:List (List Int)):Prop where
 len:(aB.length:Int)=g.n
 nodup:∀ v,(aX aB v).Nodup
 mem:∀ v,0≤v→v<g.n→∀ d,d∈aX aB v↔d∈p.aK∧g.tail d=v
def before (g:Gr) (aB:List (List Int)) (d:Int):Int:=ahead (aX aB (g.tail d)) d
def bT (g:Gr) (aB:List (List Int)) (d:Int):Int:=before g aB (dE d)
def leaving (g:Gr) (p:Pt) (U:List Int):List Int:=p.aK.filter fun d=>decide (g.tail d∈U)
def busy (aB:List (List Int)) (U:List Int):List Int:=U.filter fun v=>!(aX aB v).isEmpty
theorem kP {g:Gr} {p:Pt} {aB:List (List Int)} (h:aW g p aB) (hp:p.e.Nodup) {U:List Int} (hU:U.Nodup) (hn:∀ v∈U,0≤v∧v<g.n) :
  cF (before g aB) ((busy aB U).map fun v=>(aX aB v).reverse)∧((busy aB U).map fun v=>(aX aB v).reverse).flatten.Perm (leaving g p U):=by
 have hB:(busy aB U).Nodup:=List.Pairwise.filter _ hU;have hBU:∀ v∈busy aB U,v∈U∧aX aB v≠[]:=by
  intro v hv;have:=List.mem_filter.1 hv;refine⟨this.1,fun e=>?_⟩;have h2:=this.2;rw[e] at h2;simp at h2
 have hnd:∀ {B:List Int},B.Nodup→(∀ v∈B,v∈U)→(B.map fun v=>(aX aB v).reverse).flatten.Nodup:=by
  intro B
  induction B with
  | nil=>intro _ _;simp
  | cons v B ih =>
   intro hB hs;rw[List.nodup_cons] at hB;rw[List.map_cons,List.flatten_cons,List.nodup_append];refine⟨(List.reverse_perm _).nodup_iff.2 (h.nodup v),ih hB.2 (fun u hu=>hs u (by simp[hu])),fun a ha b hb=>?_⟩;rintro rfl;have ha:=List.mem_reverse.1 ha;obtain⟨l,hl,hbl⟩:=List.mem_flatten.1 hb;obtain⟨u,hu,rfl⟩:=List.mem_map.1 hl;have hv:=hn v (hs v (by simp));have hu':=hn u (hs u (by simp[hu]));have e1:=((h.mem v hv.1 hv.2 a).1 ha).2;have e2:=((h.mem u hu'.1 hu'.2 a).1 (List.mem_reverse.1 hbl)).2;exact hB.1 (by rw[←e1,e2];exact hu)
 have hnodup:=hnd hB (fun v hv=>(hBU v hv).1);refine⟨⟨fun c hc=>?_,hnodup⟩,?_⟩
 ·obtain⟨v,hv,rfl⟩:=List.mem_map.1 hc
  have hv':=hn v (hBU v hv).1;refine (qW (h.nodup v) (hBU v hv).2).congr fun x hx=>?_;have:=((h.mem v hv'.1 hv'.2 x).1 (List.mem_reverse.1 hx)).2;show ahead (aX aB v) x=ahead (aX aB (g.tail x)) x;rw[this]
 refine (List.perm_ext_iff_of_nodup hnodup ((eR hp).filter _)).2 fun d=>?_;constructor
 ·intro hd
  obtain⟨l,hl,hdl⟩:=List.mem_flatten.1 hd;obtain⟨v,hv,rfl⟩:=List.mem_map.1 hl;have hv':=hn v (hBU v hv).1;obtain⟨h1,h2⟩:=(h.mem v hv'.1 hv'.2 d).1 (List.mem_reverse.1 hdl);exact List.mem_filter.2 ⟨h1,by rw[h2];simpa using (hBU v hv).1⟩
 intro hd;obtain⟨h1,h2⟩:=List.mem_filter.1 hd;have h2:g.tail d∈U:=by simpa using h2
 have hv':=hn _ h2;have hdt:=(h.mem _ hv'.1 hv'.2 d).2 ⟨h1,rfl⟩;refine List.mem_flatten.2 ⟨_,List.mem_map.2 ⟨g.tail d,List.mem_filter.2 ⟨h2,?_⟩,rfl⟩,List.mem_reverse.2 hdt⟩;cases hq:aX aB (g.tail d) with
 | nil=>rw[hq] at hdt;simp at hdt
 | cons _ _=>simp
abbrev aO:=Int × List Int
structure kM (g:Gr) (p:Pt) (aB:List (List Int)) (W:List aO):Prop where
 rings:cF (bT g aB) ((W.filter fun f=>!f.2.isEmpty).map (·.2))
 all:((W.filter fun f=>!f.2.isEmpty).map (·.2)).flatten.Perm p.aK
 key:∀ f∈W,∀ d l,f.2=d :: l→f.1=d
 lone:((W.filter fun f=>f.2.isEmpty).map (·.1)).Perm ((p.v.filter fun v=>(aX aB v).isEmpty).map fun v=>-1 - v)
def aO.aY (g:Gr) (f:aO):Int:=match f.2 with | []=>-1 - f.1 | _ :: _=>g.tail f.1
def vW (g:Gr) (p:Pt) (U:List Int):Prop:=∀ d∈p.aK,g.tail d∈U→g.head d∈U
theorem sP {g:Gr} {p:Pt} {aB:List (List Int)} (h:aW g p aB) (hd0:∀ d∈p.aK,0≤g.tail d∧g.tail d<g.n) {d:Int} (hd:d∈p.aK):bT g aB d∈p.aK∧g.tail (bT g aB d)=g.head d:=by
 have ht:=jD hd;have hv:=hd0 _ ht;have hm:=(h.mem _ hv.1 hv.2 (dE d)).2 ⟨ht,rfl⟩;have hlen:0<(aX aB (g.tail (dE d))).length:=by
  cases hq:aX aB (g.tail (dE d)) with
  | nil=>rw[hq] at hm;simp at hm
  | cons _ _=>simp
 have hin:bT g aB d∈aX aB (g.tail (dE d)):=by
  unfold bT before ahead;have:=Nat.mod_lt ((aX aB (g.tail (dE d))).idxOf (dE d)+(aX aB (g.tail (dE d))).length - 1) hlen;simp[List.getD,this]
 obtain⟨h1,h2⟩:=(h.mem _ hv.1 hv.2 _).1 hin;exact⟨h1,by rw[h2,fH]⟩
theorem pX {C:List (List Int)} {D:List Int} {f:Int→Bool} (hp:C.flatten.Perm D) (hf:∀ c∈C,∀ x∈c,∀ y∈c,f x=f y) (hne:∀ c∈C,c≠[]) :
  ((C.filter fun c=>f (c.headD 0)).flatten).Perm (D.filter f):=by
 refine List.Perm.trans (List.Perm.of_eq ?_) (hp.filter f);clear hp
 induction C with
 | nil=>rfl
 | cons c C ih =>
  have ih:=ih (fun d hd=>hf d (by simp[hd])) (fun d hd=>hne d (by simp[hd]));rw[List.flatten_cons (L:=C),List.filter_append,←ih];have hc:=hf c (by simp);have hn:=hne c (by simp);cases c with
  | nil=>exact absurd rfl hn
  | cons x l =>
   by_cases hx:f x=true
   ·rw[List.filter_cons_of_pos (p:=fun c:List Int=>f (c.headD 0)) (a:=x :: l) (l:=C) (show (fun c:List Int=>f (c.headD 0)) (x :: l)=true from hx),List.flatten_cons,(List.filter_eq_self (p:=f) (l:=x :: l)).2 (fun y hy=>by rw[hc y hy x (by simp)];exact hx)]
   rw[List.filter_cons_of_neg (p:=fun c:List Int=>f (c.headD 0)) (a:=x :: l) (l:=C) (show ¬ (fun c:List Int=>f (c.headD 0)) (x :: l)=true from hx),(List.filter_eq_nil_iff (p:=f) (l:=x :: l)).2 (fun y hy=>by rw[hc y hy x (by simp)];exact hx)];rfl
theorem pB {p:Int→Int} {f:Int→Bool} {z:Int}:∀ {l:List Int} {x:Int},Trail p x l z→(∀ y∈x :: l,f (p y)=f y)→∀ y∈x :: l,f y=f x
 | [],x,_,_,y,hy=>by simp at hy;rw[hy]
 | a :: l,x,h,hf,y,hy=>by
  have e:f a=f x:=by rw[←h.1];exact hf x (by simp)
  rcases List.mem_cons.1 hy with rfl | hy
  ·rfl
  rw[←e];exact pB h.2 (fun u hu=>hf u (List.mem_cons_of_mem _ hu)) y hy
theorem xE {p:Int→Int} {f:Int→Bool} {c:List Int} (h:Ring p c) (hf:∀ y∈c,f (p y)=f y):∀ x∈c,∀ y∈c,f x=f y:=by
 cases c with
 | nil=>simp
 | cons a l=>exact fun x hx y hy=>(pB (show Trail p a l a from h) hf x hx).trans (pB (show Trail p a l a from h) hf y hy).symm
theorem kA {g:Gr} {p:Pt} {U:List Int} (hC:vW g p U) {d:Int} (hd:d∈p.aK):g.head d∈U↔g.tail d∈U:=by
 refine⟨fun h=>?_,hC d hd⟩;have h2:=hC (dE d) (jD hd) (by rw[fH];exact h);rwa[←fH,pO] at h2
theorem pA {g:Gr}:∀ {W:List aO},(∀ f∈W,∀ d l,f.2=d :: l→f.1=d)→∀ U:List Int,
  (W.filter fun f=>decide (f.aY g∈U)).length=(((W.filter fun f=>!f.2.isEmpty).map (·.2)).filter fun c=>decide (g.tail (c.headD 0)∈U)).length+((W.filter fun f=>f.2.isEmpty).map (·.1)).countP fun k=>decide (-1 - k∈U)
 | [],_,_=>rfl
 | (k,[]) :: W,hk,U=>by
  have ih:=pA (g:=g) (W:=W) (fun f hf=>hk f (by simp[hf])) U;rw[List.filter_cons_of_neg (p:=fun f:aO=>!f.2.isEmpty) (by simp),List.filter_cons_of_pos (p:=fun f:aO=>f.2.isEmpty) (by simp),List.map_cons,List.countP_cons];by_cases q:-1 - k∈U
  ·rw[List.filter_cons_of_pos (p:=fun f:aO=>decide (f.aY g∈U)) (show decide (aO.aY g (k,[])∈U)=true from decide_eq_true q),List.length_cons,ih]
   simp only[q,decide_true,if_true];omega
  rw[List.filter_cons_of_neg (p:=fun f:aO=>decide (f.aY g∈U)) (Bool.eq_false_iff.1 (show decide (aO.aY g (k,[])∈U)=false from decide_eq_false q)),ih];simp only[q,decide_false,if_false,Bool.false_eq_true];omega
 | (k,d :: l) :: W,hk,U=>by
  have ih:=pA (g:=g) (W:=W) (fun f hf=>hk f (by simp[hf])) U;have e:k=d:=hk (k,d :: l) (by simp) d l rfl;subst e;rw[List.filter_cons_of_pos (p:=fun f:aO=>!f.2.isEmpty) (by simp),List.filter_cons_of_neg (p:=fun f:aO=>f.2.isEmpty) (by simp),List.map_cons];by_cases q:g.tail k∈U
  ·rw[List.filter_cons_of_pos (p:=fun f:aO=>decide (f.aY g∈U)) (show decide (aO.aY g (k,k :: l)∈U)=true from decide_eq_true q),List.filter_cons_of_pos (p:=fun c:List Int=>decide (g.tail (c.headD 0)∈U)) (by simpa using q),List.length_cons,List.length_cons,ih]
   omega
  rw[List.filter_cons_of_neg (p:=fun f:aO=>decide (f.aY g∈U)) (Bool.eq_false_iff.1 (show decide (aO.aY g (k,k :: l)∈U)=false from decide_eq_false q)),List.filter_cons_of_neg (p:=fun c:List Int=>decide (g.tail (c.headD 0)∈U)) (by simpa using q),ih]
theorem aDI {g:Gr} {p:Pt} {aB:List (List Int)} {W:List aO} (h:aW g p aB) (hp:p.e.Nodup) (hv:p.v.Nodup) (hd0:∀ d∈p.aK,0≤g.tail d∧g.tail d<g.n) (hW:kM g p aB W)
  {U:List Int} (hU:U.Nodup) (hUV:∀ v∈U,v∈p.v∧0≤v∧v<g.n) (hC:vW g p U) :
  (U.length+(p.e.filter fun e=>decide (g.tail (2*e)∈U)).length+(W.filter fun f=>decide (f.aY g∈U)).length) % 2=0:=by
 obtain⟨hR,hRp⟩:=kP h hp hU (fun v hv=>(hUV v hv).2);have hEn:(p.e.filter fun e=>decide (g.tail (2*e)∈U)).Nodup:=List.Pairwise.filter _ hp;have hA:=wV (p:=⟨U,p.e.filter fun e=>decide (g.tail (2*e)∈U)⟩) hEn;have hAd:((p.e.filter fun e=>decide (g.tail (2*e)∈U)).map fun e=>[2*e,2*e+1]).flatten=Pt.aK ⟨U,p.e.filter fun e=>decide (g.tail (2*e)∈U)⟩:=by rw[Pt.aK,List.flatMap_def]
 have hAp:Pt.aK ⟨U,p.e.filter fun e=>decide (g.tail (2*e)∈U)⟩ |>.Perm (leaving g p U):=by
  refine (List.perm_ext_iff_of_nodup (eR hEn) ((eR hp).filter _)).2 fun d=>?_;show _↔d∈p.aK.filter fun d=>decide (g.tail d∈U);rw[bN];simp only[List.mem_filter,decide_eq_true_eq,bN];refine and_congr_right fun hd=>?_;by_cases hm:d % 2=0
  ·rw[show 2*(d / 2)=d by omega]
  have e:2*(d / 2)=dE d:=by unfold dE;rw[if_neg hm];omega
  rw[e,fH];exact kA hC (bN.2 hd)
 obtain⟨C,hCr,hCp,hmod⟩:=cF.mul _ rfl hR hA (by rw[hAd];exact hAp.trans hRp.symm);have hCp2:C.flatten.Perm (leaving g p U):=by rw[hAd] at hCp;exact hCp.trans hAp
 -- the walks of U
 have hWr:=hW.rings;have hmem:∀ c∈(W.filter fun f=>!f.2.isEmpty).map (·.2),∀ x∈c,x∈p.aK:=fun c hc x hx=>hW.all.mem_iff.1 (List.mem_flatten.2 ⟨c,hc,hx⟩);have hconst:∀ c∈(W.filter fun f=>!f.2.isEmpty).map (·.2),∀ x∈c,∀ y∈c,decide (g.tail x∈U)=decide (g.tail y∈U):=by
  intro c hc;refine xE (f:=fun d=>decide (g.tail d∈U)) (hWr.ring c hc) fun y hy=>?_;have hy':=hmem c hc y hy;have h2:=(sP h hd0 hy').2;simp only[h2,kA hC hy']
 have hne:∀ c∈(W.filter fun f=>!f.2.isEmpty).map (·.2),c≠[]:=by
  intro c hc e;have:=hWr.ring c hc;rw[e] at this;exact this
 have hWp:=pX (f:=fun d=>decide (g.tail d∈U)) hW.all hconst hne;have hWU:cF (bT g aB) (((W.filter fun f=>!f.2.isEmpty).map (·.2)).filter fun c=>decide (g.tail (c.headD 0)∈U)) :=
  ⟨fun c hc=>hWr.ring c (List.mem_filter.1 hc).1,hWp.nodup_iff.2 ((eR hp).filter _)⟩
 have hcount:=cF.count hWU (hCr.congr fun _ _=>rfl) (hWp.trans hCp2.symm)
 -- the lone ones
 have hlone:=hW.lone.countP_eq fun k=>decide (-1 - k∈U);have hsplit:(W.filter fun f=>decide (f.aY g∈U)).length=(((W.filter fun f=>!f.2.isEmpty).map (·.2)).filter fun c=>decide (g.tail (c.headD 0)∈U)).length+((W.filter fun f=>f.2.isEmpty).map (·.1)).countP fun k=>decide (-1 - k∈U):=by
  exact pA hW.key U
 have hiso:((p.v.filter fun v=>(aX aB v).isEmpty).map fun v=>-1 - v).countP (fun k=>decide (-1 - k∈U))=(U.filter fun v=>(aX aB v).isEmpty).length:=by
  rw[List.countP_map,List.countP_eq_length_filter];refine List.Perm.length_eq ?_;refine (List.perm_ext_iff_of_nodup ((hv.filter _).filter _) (hU.filter _)).2 fun v=>?_;simp only[List.mem_filter,Function.comp,decide_eq_true_eq];rw[show -1 - (-1 - v)=v by omega];exact⟨fun hh=>⟨hh.2,hh.1.2⟩,fun hh=>⟨⟨(hUV v hh.1).1,hh.2⟩,hh.1⟩⟩
 have hUl:U.length=(busy aB U).length+(U.filter fun v=>(aX aB v).isEmpty).length:=by
  unfold busy;clear hC hRp hR hAp hAd hA hCp2 hCp hmod hCr hWp hWU hcount hconst hsplit hlone hiso hEn hUV hU
  induction U with
  | nil=>rfl
  | cons v U ih =>
   simp only[List.filter_cons,List.length_cons];cases (aX aB v).isEmpty <;> simp <;> omega
 have hdl:=dO ⟨U,p.e.filter fun e=>decide (g.tail (2*e)∈U)⟩;rw[hAd] at hmod;simp only[List.length_map] at hmod hdl;rw[hsplit,hlone,hiso,hcount];omega
structure bB (g:Gr) (p:Pt):Prop where
 vn:p.v.Nodup
 en:p.e.Nodup
 vr:∀ v∈p.v,0≤v∧v<g.n
 er:∀ e∈p.e,0≤e
 ends:∀ e∈p.e,(g.at e).1∈p.v∧(g.at e).2∈p.v
theorem cS {l:List Int} {x:Int} (h:x∈l):∃ i,i<l.length∧l.getD i 0=x:=by
 obtain⟨i,hi,rfl⟩:=List.getElem_of_mem h;exact⟨i,hi,by simp[List.getD,hi]⟩
theorem Pt.aQ {g:Gr} {p:Pt} (h:p.err g=0):bB g p:=by
 obtain⟨h1,h2,h3,h4⟩:=Pt.aV h;refine⟨oD h2,oD h3,fun v hv=>?_,fun e he=>?_,fun e he=>?_⟩
 ·obtain⟨i,hi,rfl⟩:=cS hv
  have:=eB h2 hi;exact⟨this.1,this.2.1⟩
 ·obtain⟨i,hi,rfl⟩:=cS he
  exact (eB h3 hi).1
 obtain⟨i,hi,rfl⟩:=cS he;exact h4 i hi
theorem bB.dN {g:Gr} {p:Pt} (h:bB g p) {d:Int} (hd:d∈p.aK):g.tail d∈p.v∧g.head d∈p.v:=by
 have:=h.ends _ (bN.1 hd);unfold Gr.tail Gr.head;split
 ·exact this
 exact this.symm
theorem tA {g:Gr} {p:Pt} {d:Int} (hd:d∈p.aK):pW g p (g.tail d) (g.head d):=by
 refine⟨d / 2,bN.1 hd,?_⟩;unfold Gr.tail Gr.head;split
 ·exact Or.inl rfl
 exact Or.inr rfl
theorem pD {g:Gr} {p:Pt} (h:bB g p) (a:Int):vW g p (comp g p a):=by
 intro d hd ht;obtain⟨_,h2⟩:=bZ.1 ht;have hh:=(h.dN hd).2;exact bZ.2 ⟨hh,h2.step (tA hd) (by have:=h.vr _ hh;omega)⟩
theorem wU {g:Gr} {p:Pt} (h:bB g p) (a:Int):(comp g p a).Nodup:=by
 classical
 exact List.Pairwise.filter _ h.vn
theorem gO {g:Gr} {p:Pt} (h:bB g p):(roots g p).Nodup:=by
 classical
 exact List.Pairwise.filter _ h.vn
theorem pL (g:Gr) (e:Int):g.tail (2*e)=(g.at e).1∧g.head (2*e)=(g.at e).2:=by
 unfold Gr.tail Gr.head;rw[if_pos (by omega),if_pos (by omega),show 2*e / 2=e by omega];exact⟨rfl,rfl⟩
theorem tB {g:Gr} {p:Pt} (h:bB g p) (a:Int):(p.sub g (comp g p a)).e=p.e.filter fun e=>decide (g.tail (2*e)∈comp g p a):=by
 unfold Pt.sub;refine List.filter_congr fun e he=>?_;have hd:2*e∈p.aK:=bN.2 (by rwa[show 2*e / 2=e by omega]);obtain⟨e1,e2⟩:=pL g e;have hc:=kA (pD h a) hd;rw[e1,e2] at hc;rw[e1];by_cases q:(g.at e).1∈comp g p a
 ·have:=hc.2 q
  simp[q,this]
 simp[q]
theorem zL {g:Gr} {p:Pt} (a:Int):(p.sub g (comp g p a)).v.length=(comp g p a).length:=by
 unfold Pt.sub
 classical
 have:p.v.filter (fun v=>decide (v∈comp g p a))=comp g p a:=by
  unfold comp;refine List.filter_congr fun v hv=>?_;simp[hv]
 rw[this]
theorem dG {g:Gr} {p:Pt} {aB:List (List Int)} {W:List aO} (h:bB g p) (hW:kM g p aB W):∀ f∈W,f.aY g∈p.v:=by
 intro f hf;obtain⟨k,l⟩:=f;cases l with
 | nil =>
  have:k∈(W.filter fun f=>f.2.isEmpty).map (·.1):=List.mem_map.2 ⟨(k,[]),List.mem_filter.2 ⟨hf,rfl⟩,rfl⟩;obtain⟨v,hv,e⟩:=List.mem_map.1 (hW.lone.mem_iff.1 this);show -1 - k∈p.v;rw[←e,show -1 - (-1 - v)=v by omega];exact (List.mem_filter.1 hv).1
 | cons d l =>
  have e:k=d:=hW.key (k,d :: l) hf d l rfl;subst e;have:k∈p.aK:=hW.all.mem_iff.1 (List.mem_flatten.2 ⟨k :: l,List.mem_map.2 ⟨(k,k :: l),List.mem_filter.2 ⟨hf,rfl⟩,rfl⟩,by simp⟩);exact (h.dN this).1
noncomputable def cC (g:Gr) (p:Pt) (W:List aO) (r:Int):Int :=
 (2 - ((comp g p r).length:Int)+((p.e.filter fun e=>decide (g.tail (2*e)∈comp g p r)).length:Int) - ((W.filter fun f=>decide (f.aY g∈comp g p r)).length:Int)).tdiv 2
theorem aDz {g:Gr} {p:Pt} {aB:List (List Int)} {W:List aO} (h:bB g p) (ht:aW g p aB) (hW:kM g p aB W) {r:Int} (hz:cC g p W r=0) :
  (comp g p r).length+(W.filter fun f=>decide (f.aY g∈comp g p r)).length=2+(p.e.filter fun e=>decide (g.tail (2*e)∈comp g p r)).length:=by
 have hev:=aDI ht h.en h.vn (fun d hd=>h.vr _ (h.dN hd).1) hW (wU h r) (fun v hv=>⟨(bZ.1 hv).1,h.vr _ (bZ.1 hv).1⟩) (pD h r);unfold cC at hz;have h2:=Int.natAbs_tdiv (2 - ((comp g p r).length:Int)+((p.e.filter fun e=>decide (g.tail (2*e)∈comp g p r)).length:Int) - ((W.filter fun f=>decide (f.aY g∈comp g p r)).length:Int)) 2;rw[hz] at h2;generalize (comp g p r).length=a at *;generalize (p.e.filter fun e=>decide (g.tail (2*e)∈comp g p r)).length=b at *;generalize (W.filter fun f=>decide (f.aY g∈comp g p r)).length=c at *;have h3:(2 - (a:Int)+(b:Int) - (c:Int)).natAbs / 2=0:=h2.symm;omega
theorem kX {α:Type} {g:Gr} {p:Pt} (h:bB g p) (f:α→Int) (L:List α) (hf:∀ x∈L,f x∈p.v):((roots g p).map fun r=>(L.filter fun x=>decide (f x∈comp g p r)).length).sum=L.length:=by
 refine oL (fun x r=>decide (f x∈comp g p r)) (gO h) fun x hx=>⟨?_,fun r hr s hs h1 h2=>?_⟩
 ·obtain⟨r,hr,hc⟩:=kT (g:=g) (fun v hv=>(h.vr v hv).1) (hf x hx)
  exact⟨r,hr,decide_eq_true (bZ.2 ⟨hf x hx,hc⟩)⟩
 exact oC (fun v hv=>(h.vr v hv).1) hr hs (bZ.1 (of_decide_eq_true h1)).2 (bZ.1 (of_decide_eq_true h2)).2
theorem yZ {α:Type} {f g:α→Nat}:∀ {R:List α},(∀ r∈R,f r=g r)→(R.map f).sum=(R.map g).sum
 | [],_=>rfl
 | a :: R,h=>by rw[List.map_cons,List.map_cons,List.sum_cons,List.sum_cons,h a (by simp),yZ fun r hr=>h r (by simp[hr])]
theorem zA (c:Nat) {α:Type}:∀ R:List α,(R.map fun _=>c).sum=c*R.length
 | []=>rfl
 | a :: R=>by rw[List.map_cons,List.sum_cons,zA c R,List.length_cons,Nat.mul_succ];omega
theorem aIv {g:Gr} {p:Pt} {aB:List (List Int)} {W:List aO} (h:bB g p) (ht:aW g p aB) (hW:kM g p aB W) (hz:∀ r∈roots g p,cC g p W r=0) :
  p.v.length+W.length=2*(roots g p).length+p.e.length:=by
 have e1:=kX h (fun v=>v) p.v (fun _ hv=>hv);have e2:=kX h (fun e=>g.tail (2*e)) p.e (fun e he=>(h.dN (bN.2 (by rwa[show 2*e / 2=e by omega]))).1);have e3:=kX h (fun f:aO=>f.aY g) W (dG h hW);have e0:(roots g p).map (fun r=>(p.v.filter fun v=>decide (v∈comp g p r)).length)=(roots g p).map fun r=>(comp g p r).length:=List.map_congr_left fun r _=>zL r;have e4:=yZ (R:=roots g p) (f:=fun r=>(comp g p r).length+(W.filter fun f=>decide (f.aY g∈comp g p r)).length) (g:=fun r=>2+(p.e.filter fun e=>decide (g.tail (2*e)∈comp g p r)).length) (fun r hr=>aDz h ht hW (hz r hr));rw[sum_add,sum_add,zA] at e4;rw[e0] at e1;omega
end Go.Proofs.YtkacjmoamgjfpaaGreat.aA
namespace Go.Proofs.YtkacjmoamgjfpaaGreat
open Go.RowKit Go.Maps
structure Chg (own:List Nat) (w w':World):Prop where
 os:w'.os=w.os
 tape:w'.tape=w.tape
 output:w'.output=w.output
 size:w.heap.size≤w'.heap.size
 block:∀ k,k<w.heap.size→k ∉ own→w'.heap[k]?=w.heap[k]?
theorem Chg.refl (own:List Nat) (w:World):Chg own w w:=⟨rfl,rfl,rfl,Nat.le_refl _,fun _ _ _=>rfl⟩
theorem Chg.trans {own own':List Nat} {a b c:World} (h:Chg own a b) (k:Chg own' b c) (hs:∀ j∈own',j∈own∨a.heap.size≤j):Chg own a c :=
 ⟨k.os.trans h.os,k.tape.trans h.tape,k.output.trans h.output,Nat.le_trans h.size k.size,fun i hi hn =>
  (k.block i (Nat.lt_of_lt_of_le hi h.size) (fun e=>by rcases hs i e with h1 | h1;exact hn h1;omega)).trans (h.block i hi hn)⟩
theorem Chg.mono {own own':List Nat} {a b:World} (h:Chg own a b) (hs:∀ j∈own,j∈own'∨a.heap.size≤j):Chg own' a b :=
 ⟨h.os,h.tape,h.output,h.size,fun i hi hn=>h.block i hi (fun e=>by rcases hs i e with h1 | h1;exact hn h1;omega)⟩
theorem Chg.drew {own:List Nat} {a w:World} (h:Chg own a w):Chg own a w.drew:=⟨h.os,h.tape,h.output,h.size,h.block⟩
theorem Chg.alloc {own:List Nat} {a w:World} (h:Chg own a w) (o:Obj):Chg own a (w.alloc o) :=
 h.trans (own':=[]) ⟨rfl,rfl,rfl,by simp,fun k hk _=>Below.heap_alloc _ _ _ hk⟩ (by simp)
theorem Chg.setCell {own:List Nat} {a w:World} (h:Chg own a w) {p:Addr} (hp:p.block∈own∨a.heap.size≤p.block) (u:Value):Chg own a (w.setCell p u) :=
 h.trans (own':=[p.block]) ⟨rfl,rfl,rfl,by simp[World.setCell],fun k _ hn=>Below.heap_setCell _ _ _ _ (by simpa using hn)⟩ (by simpa using hp)
theorem Chg.grown {own:List Nat} {a w w':World} {row:Option Nat} (h:Chg own a w) (hg:w.grownBy w' row) (hr:∀ k,row=some k→k∈own∨a.heap.size≤k):Chg own a w' :=
 h.trans (own':=row.toList) ⟨hg.os,hg.tape,hg.output,hg.size,fun k hk hn=>hg.block k hk (fun e=>hn (by simp[←e]))⟩ (fun j hj=>hr j (by simpa using hj))
theorem Chg.below {a w:World} (h:Chg [] a w):Below a.heap.size a w:=⟨h.os,h.tape,h.output,h.size,fun k hk=>h.block k hk (by simp)⟩
theorem Chg.grownBy {a w:World} {own:List Nat} (h:Chg own a w) {row:Option Nat} (hr:∀ k∈own,some k=row):a.grownBy w row :=
 ⟨h.os,h.tape,h.output,h.size,fun k hk hn=>h.block k hk (fun e=>hn (hr k e))⟩
theorem Chg.sG {a w:World} {B:Nat} (h:Below B a w) (hB:a.heap.size≤B):Chg [] a w:=⟨h.os,h.tape,h.output,h.size,fun k hk _=>h.block k (by omega)⟩
theorem Chg.cell {own:List Nat} {a w:World} (h:Chg own a w) {p:Addr} {v:Value} (hc:a.cell? p=some v) (hn:p.block ∉ own):w.cell? p=some v :=
 (World.cell?_of_block (w:=a) (h.block p.block (World.block_lt_of_cell? a p hc) hn)).trans hc
theorem Chg.frozen {own:List Nat} {a w:World} (h:Chg own a w) {p:Addr} {v:Value} (hc:a.cell? p=some v) (hf:a.frozen? p=false) (hn:p.block ∉ own):w.frozen? p=false :=
 (World.frozen?_of_block (w:=a) (h.block p.block (World.block_lt_of_cell? a p hc) hn)).trans hf
theorem bG {w:World} {p:Addr} {v:Value} (h:w.cell? p=some v) (o:Obj):(w.alloc o).cell? p=some v:=((Chg.refl [] w).alloc o).cell h (by simp)
theorem aIn (x:Int):∀ u∈(#[Value.int .i64 x]).toList,u.oneCell'=true:=by intro u hu;simp at hu;subst hu;rfl
theorem lH (a:Option Addr) (n c:Nat):∀ u∈(#[Value.slice a n c]).toList,u.oneCell'=true:=by intro u hu;simp at hu;subst hu;rfl
theorem Chg.heap {own:List Nat} {a w:World} (h:Chg own a w) {k:Nat} {o:Obj} (hc:a.heap[k]?=some o) (hn:k ∉ own):w.heap[k]?=some o :=
 (h.block k (lt_of_block hc) hn).trans hc
theorem heap_setCell_same {w:World} {b:Nat} {cs:Array Value} {t:TypeId} {r:Nat × Nat} (h:w.heap[b]?=some (.cells cs t r)) (i:Nat) (u:Value):(w.setCell ⟨b,i,none⟩ u).heap[b]?=some (.cells (cs.setIfInBounds i u) t r):=by
 have hlt:=lt_of_block h;have h':w.heap[b]=.cells cs t r:=by simpa[Array.getElem?_eq_getElem hlt] using h
 show (w.heap.modify b _)[b]?=_;rw[Array.getElem?_eq_getElem (by simpa using hlt),Array.getElem_modify_self,h'];rfl
theorem bK {a b:Bool} (h:a=b):Ending.returned (.bool a)=.returned (.bool b):=by rw[h]
theorem aS {a b:Int} (h:a=b):Ending.returned (.int .i64 a)=.returned (.int .i64 b):=by rw[h]
theorem four {w:World} {b:Nat} {a0 a1 a2 a3:Value} {t:TypeId} (h:w.heap[b]?=some (.cells #[a0,a1,a2,a3] t (0,0))) :
  w.cell? ⟨b,0,none⟩=some a0∧w.cell? ⟨b,1,none⟩=some a1∧w.cell? ⟨b,2,none⟩=some a2∧w.cell? ⟨b,3,none⟩=some a3∧w.frozen? ⟨b,1,none⟩=false∧w.frozen? ⟨b,2,none⟩=false∧w.frozen? ⟨b,3,none⟩=false:=by
 simp[World.cell?,World.frozen?,h]
theorem cM:Keyed Tryz.prog 3:=int_keyed Tryz.underlying3
theorem rY (w:World):(zeroValue 3).run Tryz.prog w=.ok (.int .i64 0) w:=by kernel_rfl
def I64 (x:Int):Prop:=(Lit.int .i64 x).wf=true
theorem I64.mk {x:Int} (h1:-9223372036854775808≤x) (h2:x≤9223372036854775807):I64 x:=WalkArith.wf_i64 (by omega)
def cA (w:World) (b n:Nat) (f:Int→Option Int):Prop :=
 ∃ D:DataW Unit,w.ownsMap Tryz.prog 3 (plainElem Tryz.prog 3) b n D ∧
  ∀ x,I64 x→Maps.has D (.int .i64 x)=(f x).isSome∧D.atKey (.int .i64 x) (.lit (.int .i64 0))=.lit (.int .i64 ((f x).getD 0))
theorem cA.made (w:World):cA (w.alloc (.map #[] 0)) w.heap.size 0 (fun _=>none) :=
 ⟨.map [],World.ownsMap_made _ _ _ _,fun _ _=>⟨rfl,rfl⟩⟩
theorem cA.lt {w:World} {b n:Nat} {f:Int→Option Int} (h:cA w b n f):b<w.heap.size:=by obtain⟨D,h,_⟩:=h;exact h.lt
theorem cA.mono {w:World} {b n n':Nat} {f:Int→Option Int} (h:cA w b n f) (hn:n≤n'):cA w b n' f:=by obtain⟨D,h,g⟩:=h;exact⟨D,h.mono hn,g⟩
theorem cA.chg {w w':World} {own:List Nat} {b n:Nat} {f:Int→Option Int} (h:cA w b n f) (hc:Chg own w w') (hb:b ∉ own):cA w' b n f:=by
 obtain⟨D,⟨es,clock,he,r⟩,g⟩:=h;exact⟨D,⟨es,clock,hc.heap he hb,r⟩,g⟩
theorem cA.kept {w w':World} {row:Option Nat} {b n:Nat} {f:Int→Option Int} (h:cA w b n f) (hc:w.grownBy w' row) (hb:some b≠row):cA w' b n f:=by
 obtain⟨D,h,g⟩:=h;exact⟨D,h.kept hc hb,g⟩
theorem cA.alloc {w:World} {b n:Nat} {f:Int→Option Int} (h:cA w b n f) (o:Obj):cA (w.alloc o) b n f:=h.kept (World.grownBy_alloc w o none) (by simp)
theorem cA.ne {w:World} {b n:Nat} {f:Int→Option Int} (h:cA w b n f) {k:Nat} {cs:Array Value} {t:TypeId} {r:Nat × Nat} (hk:w.heap[k]?=some (.cells cs t r)):k≠b:=by
 obtain⟨D,⟨es,clock,he,_⟩,_⟩:=h;intro e;rw[e,he] at hk;cases hk
theorem nY {x y:Int} (h:x≠y):(Lit.int .i64 x)≠.int .i64 y:=fun e=>h (by cases e;rfl)
section
variable (w : World) {ops : Array Oper} {rest : List Oper} {o : Oper} {a : Act} {Q : Exit → Act → World → Prop}
theorem dZ (hg:o.guard=none) (m x:Operand) (hop:o.op=Op.lookup 93 m x true) {b n:Nat} {f:Int→Option Int} (h:cA w b n f) (hm:a.eval m=.map (some b))
  {k v:Int} (hk:I64 k) (hx:a.eval x=.int .i64 k) (hf:Hid (f k=some v)) (hK:wpList Tryz.prog ops Q rest (a.put o.dst (.tuple #[.int .i64 v,.bool true])) w):wpList Tryz.prog ops Q (o :: rest) a w:=by
 obtain⟨D,hown,hv⟩:=h;refine wpList_lookup_own_ok_int w hg m x _ hop _ _ .i64 cM Tryz.underlying93 Tryz.underlying3 (rY _) b n D hm hown _ _ hx (keyOf_int_mk Tryz.underlying3 hk) (fun c hat _=>?_);obtain⟨h1,h2⟩:=hv k hk;rw[hf.out] at h1 h2;rw[h2] at hat;cases hat;rw[h1];exact hK
theorem eJ (hg:o.guard=none) (m x:Operand) (hop:o.op=Op.lookup 93 m x true) {b n:Nat} {f:Int→Option Int} (h:cA w b n f) (hm:a.eval m=.map (some b))
  {k:Int} (hk:I64 k) (hx:a.eval x=.int .i64 k) (hf:Hid (f k=none)) (hK:wpList Tryz.prog ops Q rest (a.put o.dst (.tuple #[.int .i64 0,.bool false])) w):wpList Tryz.prog ops Q (o :: rest) a w:=by
 obtain⟨D,hown,hv⟩:=h;refine wpList_lookup_own_ok_int w hg m x _ hop _ _ .i64 cM Tryz.underlying93 Tryz.underlying3 (rY _) b n D hm hown _ _ hx (keyOf_int_mk Tryz.underlying3 hk) (fun c hat _=>?_);obtain⟨h1,h2⟩:=hv k hk;rw[hf.out] at h1 h2;rw[h2] at hat;cases hat;rw[h1];exact hK
theorem gU (hg:o.guard=none) (m x:Operand) (hop:o.op=Op.lookup 93 m x false) {b n:Nat} {f:Int→Option Int} (h:cA w b n f) (hm:a.eval m=.map (some b))
  {k:Int} (hk:I64 k) (hx:a.eval x=.int .i64 k) {v:Int} (hf:Hid ((f k).getD 0=v)) (hK:wpList Tryz.prog ops Q rest (a.put o.dst (.int .i64 v)) w):wpList Tryz.prog ops Q (o :: rest) a w:=by
 obtain⟨D,hown,hv⟩:=h;refine wpList_lookup_own_int w hg m x _ hop _ _ .i64 cM Tryz.underlying93 Tryz.underlying3 (rY _) b n D hm hown _ _ hx (keyOf_int_mk Tryz.underlying3 hk) (fun c hat _=>?_);obtain⟨h1,h2⟩:=hv k hk;rw[h2,hf.out] at hat;cases hat;exact hK
theorem fX (hg:o.guard=none) (m x u:Operand) (hop:o.op=Op.mapUpdate 93 m x u) {b n:Nat} {f:Int→Option Int} (h:cA w b n f) (hn:n<maxLen) (hm:a.eval m=.map (some b))
  {k v:Int} (hk:I64 k) (hv:I64 v) (hx:a.eval x=.int .i64 k) (hu:a.eval u=.int .i64 v)
  (hK:∀ w',cA w' b (n+1) (fun y=>if y=k then some v else f y)→w.grownBy w' (some b)→wpList Tryz.prog ops Q rest (a.put o.dst undef) w'):wpList Tryz.prog ops Q (o :: rest) a w:=by
 obtain⟨D,hown,hD⟩:=h;refine wpList_mapUpdate_own w hg m x u _ hop _ _ cM Tryz.underlying93 _ b n D hm hown hn _ _ _ hx hu (keyOf_int_mk Tryz.underlying3 hk) _ [] (plainElem_int Tryz.underlying3 hv) (fun w' h1 h2=>hK w' ⟨_,h1,fun y hy=>?_⟩ h2);by_cases e:y=k
 ·subst e
  have hkl:=cM.key (keyOf_int_mk Tryz.underlying3 hk);rw[has_put_same hown.isMap hkl,atKey_put_same hown.isMap hkl];simp
 rw[has_put_other (nY e),atKey_put_other (nY e)];simp only[if_neg e];exact hD y hy
end
def aL (w:World) (v:Value) (l:List Int):Prop :=
 ∃ ao cap,v=.slice ao l.length cap∧(∀ x∈l,I64 x)∧l.length≤9223372036854775807∧(l≠[]→∃ b off,ao=some ⟨b,off,none⟩∧∀ i,i<l.length→w.cell? ⟨b,off+i,none⟩=some (.int .i64 (l.getD i 0)))
theorem aL.nil (w:World):aL w (.slice none 0 0) []:=⟨none,0,rfl,by simp,by simp,by simp⟩
theorem aL.chg {w w':World} {v:Value} {l:List Int} {own:List Nat} (h:aL w v l) (hc:Chg own w w') (hn:∀ b n c,v=.slice (some b) n c→b.block ∉ own):aL w' v l:=by
 obtain⟨ao,cap,rfl,h1,h2,h3⟩:=h;refine⟨ao,cap,rfl,h1,h2,fun hl=>?_⟩;obtain⟨b,off,rfl,h4⟩:=h3 hl;exact⟨b,off,rfl,fun i hi=>hc.cell (h4 i hi) (show b ∉ own from hn ⟨b,off,none⟩ _ _ rfl)⟩
theorem aL.fresh {w w':World} {v:Value} {l:List Int} (h:aL w v l) (hc:Chg [] w w'):aL w' v l:=h.chg hc (by simp)
structure xV (t e:TypeId) (z:Value) (size bytes:Nat):Prop where
 ht:Tryz.prog.underlying t=some (.slice e)
 hi:(Tryz.prog.info? e).map (fun i=>(i.zero,i.size,i.bytes))=some (some z,size,bytes)
 hz:z.cells.size=size
 h0:0<size
 hb:bytes≤1024
theorem eN:xV 27 3 (.int .i64 0) 1 8:=⟨Tryz.underlying27,by kernel_rfl,rfl,by decide,by decide⟩
theorem nC:xV 30 27 (.slice none 0 0) 1 24:=⟨Tryz.underlying30,by kernel_rfl,rfl,by decide,by decide⟩
theorem mY {t e:TypeId} {z:Value} {size bytes:Nat} (E:xV t e z size bytes) {w0 w:World} {B:Nat} {v:Value} {n:Nat} {xs:List Value} (hown:w0.ownsRow B e size v n xs) (hB:B≤w0.heap.size) {cs:Array Value} (hcs:cs.size=size) (h1:∀ u∈cs.toList,u.oneCell'=true) (hn:n<68719476736)
  (hw:w=w0.alloc (.cells cs e)∨w=(w0.alloc (.cells cs e)).drew) (ty:TypeId) :
  ∃ g cap w',(Builtin.append_ #[t,t] ty #[v,.slice (some ⟨w0.heap.size,0,none⟩) 1 1]).run Tryz.prog w=.ok (.slice (some ⟨g,0,none⟩) (n+1) cap) w' ∧
   w'.ownsRow B e size (.slice (some ⟨g,0,none⟩) (n+1) cap) (n+1) (xs++cs.toList)∧Chg v.ownBlock.toList w0 w'∧(v.ownBlock=some g∨w0.heap.size≤g):=by
 have hown':w.ownsRow B e size v n xs:=by rcases hw with rfl | rfl;exact hown.alloc _;exact hown.alloc _
 have hch:Chg [] w0 w:=by rcases hw with rfl | rfl;exact (Chg.refl _ _).alloc _;exact ((Chg.refl _ _).alloc _).drew
 have hsz:w.heap.size=w0.heap.size+1:=by rcases hw with rfl | rfl <;> simp[World.drew]
 have hnews:∀ j u,cs.toList[j]?=some u→w.cell? ((⟨w0.heap.size,0,none⟩:Addr).add j)=some u:=by
  intro j u hu;have hadd:(⟨w0.heap.size,0,none⟩:Addr).add j=⟨w0.heap.size,j,none⟩:=by unfold Addr.add;split <;> simp_all
  have hblk:w.heap[w0.heap.size]?=some (.cells cs e (0,0)):=by rcases hw with rfl | rfl <;> exact heap_alloc_new _ _
  rw[hadd,cell_of_row w _ j cs e (0,0) hblk];simpa using hu
 obtain⟨i0,hi,hz0,hz1,hz2⟩:=info_parts E.hi;have hb:=E.hb;obtain⟨v',w',hr,h2,h3,h4,h5⟩:=run_append_own_at (P:=Tryz.prog) w B t ty e i0 z size bytes E.ht hi hz0 hz1 hz2 E.hz E.h0 v n xs hown' ⟨w0.heap.size,0,none⟩ 1 1 cs.toList (by simpa using hcs) hnews h1 (by unfold maxLen;omega) (Nat.le_trans (Nat.mul_le_mul_left _ hb) (by omega)) (by omega);obtain⟨g,cap,rfl⟩:∃ g cap,v'=.slice (some ⟨g,0,none⟩) (n+1) cap:=by
  rcases h2.2 with ⟨_,e⟩ | ⟨g,cap,_,rfl,_⟩
  ·omega
  exact⟨_,_,rfl⟩
 refine⟨g,cap,w',hr,h2,(hch.mono (by simp)).grown h3 (fun j hj=>Or.inl (by rw[hj];simp)),?_⟩;rcases h5 with h4 | h4
 ·exact Or.inl h4.symm
 simp only[Value.ownBlock,Option.some.injEq] at h4;exact Or.inr (by omega)
section
variable {ops : Array Oper} {rest : List Oper} {o : Oper} {a : Act} {Q : Exit → Act → World → Prop}
theorem qZ {t e:TypeId} {z:Value} {size bytes:Nat} (E:xV t e z size bytes) {w0:World} (hg:o.guard=none) (s x:Operand) (ho:o.op=.call { callee:=.builtin .append,args:=#[s,x],argTypes:=#[t,t] })
  {B:Nat} {v:Value} {n m:Nat} {xs:List Value} {cs:Array Value} (hs:a.eval s=v) (hx:a.eval x=.slice (some ⟨m,0,none⟩) 1 1) (hm:m=w0.heap.size) (hown:w0.ownsRow B e size v n xs) (hB:B≤w0.heap.size) (hcs:cs.size=size) (h1:∀ u∈cs.toList,u.oneCell'=true) (hn:n<68719476736)
  (hK:∀ g cap w',w'.ownsRow B e size (.slice (some ⟨g,0,none⟩) (n+1) cap) (n+1) (xs++cs.toList)→Chg v.ownBlock.toList w0 w'→(v.ownBlock=some g∨w0.heap.size≤g) →
   wpList Tryz.prog ops Q rest (a.put o.dst (.slice (some ⟨g,0,none⟩) (n+1) cap)) w'):wpList Tryz.prog ops Q (o :: rest) a (w0.alloc (.cells cs e)):=by
 subst hm;refine wpList_plain hg fun K hK'=>?_;obtain⟨g,cap,w',hr,r1,r2,r3⟩:=mY E hown hB hcs h1 hn (Or.inl rfl) o.type;unfold Oper.wp execOp;simp only[ho,resolve,invoke,builtin,Sem.run_bind,Sem.run_pure,Result.andThen_ok,List.map_toArray,List.map_cons,List.map_nil,hs,hx,hr];exact hK' _ _ (hK g cap w' r1 r2 r3)
theorem wY {w0:World} (hg:o.guard=none) (s x:Operand) (ho:o.op=.call { callee:=.builtin .append,args:=#[s,x],argTypes:=#[27,27] })
  {v:Value} {n m:Nat} {xs:List Value} {k:Int} {B:Nat} (hs:a.eval s=v) (hx:a.eval x=.slice (some ⟨m,0,none⟩) 1 1) (hm:m=w0.heap.size) (hown:w0.ownsRow B 3 1 v n xs) (hB:B≤w0.heap.size) (hn:n<68719476736)
  (hK:∀ g cap w',w'.ownsRow B 3 1 (.slice (some ⟨g,0,none⟩) (n+1) cap) (n+1) (xs++[.int .i64 k])→Chg v.ownBlock.toList w0 w'→(v.ownBlock=some g∨w0.heap.size≤g) →
   wpList Tryz.prog ops Q rest (a.put o.dst (.slice (some ⟨g,0,none⟩) (n+1) cap)) w'):wpList Tryz.prog ops Q (o :: rest) a (w0.alloc (.cells #[.int .i64 k] 3)) :=
 qZ eN hg s x ho hs hx hm hown hB rfl (by intro u hu;simp at hu;subst hu;rfl) hn hK
theorem aHq {t e:TypeId} {z:Value} {size bytes:Nat} (E:xV t e z size bytes) {w:World} (hg:o.guard=none) (l c:Operand) (hop:o.op=Op.makeSlice t l c) {B n:Nat} (hl:a.eval l=.int .i64 n) (hc:a.eval c=.int .i64 n) (hB:B≤w.heap.size) (hn:n<68719476736)
  (hK:∀ w',w'.ownsRow B e size (.slice (some ⟨w.heap.size,0,none⟩) n n) n (madeCells z.cells (n*size)).toList→Chg [] w w'→wpList Tryz.prog ops Q rest (a.put o.dst (.slice (some ⟨w.heap.size,0,none⟩) n n)) w') :
  wpList Tryz.prog ops Q (o :: rest) a w:=by
 obtain⟨i0,hi,hz0,hz1,hz2⟩:=info_parts E.hi;have hb:=E.hb;refine wpList_make_full w hg l c t hop B e i0 z size E.ht hi hz0 hz1 .i64 .i64 _ _ n hl hc rfl rfl ?_ (by unfold maxLen;omega) hB (fun w' h1 h2=>hK w' h1 ((Chg.refl _ _).grown h2 (by simp)));rw[hz2];exact Nat.le_trans (Nat.mul_le_mul_right _ hb) (by omega)
end
theorem Z1 {α:Type} {xs:List α} {i:Nat} (h:i<xs.toArray.size):xs.toArray[i]'h=xs[i]'(by simpa using h):=rfl
theorem Z2 {α:Type} {a:α} {xs:List α} {h:0<(a :: xs).length}:(a :: xs)[0]'h=a:=rfl
theorem Z3 {α:Type} {a:α} {xs:List α} {i:Nat} {h:i+1<(a :: xs).length}:(a :: xs)[i+1]'h=xs[i]'(Nat.lt_of_succ_lt_succ h):=rfl
theorem Z4 {α:Type} {l:List α} {i:Nat} {a:α}:l.toArray.setIfInBounds i a=(l.set i a).toArray:=List.setIfInBounds_toArray ..
theorem Z5 {α:Type} {x:α} {xs:List α} {a:α}:(x :: xs).set 0 a=a :: xs:=rfl
theorem lh {p:Prop} (h:p):RowKit.Hid p:=h
theorem Z6 {α:Type} {x:α} {xs:List α} {n:Nat} {a:α}:(x :: xs).set (n+1) a=x :: xs.set n a:=rfl
def dW (w:World) (v:Value) (g:aA.Gr):Prop :=
 ∃ eo cap,v=.agg #[.int .i64 g.n,.slice eo g.e.length cap]∧I64 g.n∧g.e.length≤9223372036854775807 ∧
  (∀ i,i<g.e.length→I64 (g.ends i).1∧I64 (g.ends i).2) ∧
  (∀ i,i<g.e.length→∃ b off,eo=some ⟨b,off,none⟩∧w.cell? ⟨b,off+i*2,none⟩=some (.int .i64 (g.ends i).1)∧w.cell? ⟨b,off+i*2+1,none⟩=some (.int .i64 (g.ends i).2))
def gC (w:World) (v:Value) (p:aA.Pt):Prop:=∃ v1 v2,v=.agg #[v1,v2]∧aL w v1 p.v∧aL w v2 p.e
def gI (v:Value):Prop:=∃ ao n cap,v=.slice ao n cap∧n≤cap∧cap≤9223372036854775807
def cG (w:World) (v:Value) (ll:List (List Int)):Prop :=
 ∃ ao cap,v=.slice ao ll.length cap∧ll.length≤9223372036854775807 ∧
  ∀ i,i<ll.length→∃ b off u,ao=some ⟨b,off,none⟩∧w.cell? ⟨b,off+i,none⟩=some u∧gI u∧aL w u (ll.getD i [])
theorem dW.fresh {w w':World} {v:Value} {g:aA.Gr} (h:dW w v g) (hc:Chg [] w w'):dW w' v g:=by
 obtain⟨eo,cap,e,h1,h2,h3,h4⟩:=h;refine⟨eo,cap,e,h1,h2,h3,fun i hi=>?_⟩;obtain⟨b,off,e1,c1,c2⟩:=h4 i hi;exact⟨b,off,e1,hc.cell c1 (by simp),hc.cell c2 (by simp)⟩
theorem gC.fresh {w w':World} {v:Value} {p:aA.Pt} (h:gC w v p) (hc:Chg [] w w'):gC w' v p:=by
 obtain⟨v1,v2,e,h1,h2⟩:=h;exact⟨v1,v2,e,h1.fresh hc,h2.fresh hc⟩
theorem cG.fresh {w w':World} {v:Value} {ll:List (List Int)} (h:cG w v ll) (hc:Chg [] w w'):cG w' v ll:=by
 obtain⟨ao,cap,e,h1,h2⟩:=h;refine⟨ao,cap,e,h1,fun i hi=>?_⟩;obtain⟨b,off,u,e1,c1,c2,c3⟩:=h2 i hi;exact⟨b,off,u,e1,hc.cell c1 (by simp),c2,c3.fresh hc⟩
end Go.Proofs.YtkacjmoamgjfpaaGreat
namespace Go.Proofs.YtkacjmoamgjfpaaGreat
structure St where
 all:List Int
 grp:List Nat
def pos (l:List Int) (x:Int):Option Int:=if x∈l then some ((l.idxOf x:Nat):Int) else none
theorem aCq {l:List Int} {x:Int} (h:x∈l):pos l x=some ((l.idxOf x:Nat):Int):=if_pos h
theorem aG6 {l:List Int} {x:Int} (h:x ∉ l):pos l x=none:=if_neg h
theorem aGn {l:List Int} {x:Int} (h:x ∉ l):(fun y=>if y=x then some ((l.length:Nat):Int) else pos l y)=pos (l++[x]):=by
 funext y
 by_cases e:y=x
 ·subst e
  simp[pos,List.idxOf_append,h]
 by_cases hy:y∈l
 ·simp[pos,e,hy,List.idxOf_append]
 simp[pos,e,hy]
def St.put (s:St) (x:Int):St:=if x∈s.all then s else ⟨s.all++[x],s.grp++[s.all.length]⟩
def St.count (s:St):Nat:=(List.range s.grp.length).countP fun i=>s.grp.getD i 0==i
def St.hd (s:St) (i:Nat):Nat:=s.grp.getD i 0
def Up (up grp:List Nat):Prop:=up.length=grp.length∧∀ i,i<up.length→up.getD i 0≤i∧grp.getD i 0=if up.getD i 0=i then i else grp.getD (up.getD i 0) 0
theorem Up.le {up grp:List Nat} (h:Up up grp):∀ i,i<up.length→grp.getD i 0≤i∧up.getD (grp.getD i 0) 0=grp.getD i 0:=by
 intro i
 induction i using Nat.strongRecOn with
 | _ i ih =>
  intro hi;obtain⟨h1,h2⟩:=h.2 i hi;by_cases e:up.getD i 0=i
  ·rw[if_pos e] at h2
   rw[h2];exact⟨Nat.le_refl _,e⟩
  rw[if_neg e] at h2;have:=ih (up.getD i 0) (by omega) (by omega);rw[h2];exact⟨by omega,this.2⟩
theorem Up.fix {up grp:List Nat} (h:Up up grp) {i:Nat} (hi:i<up.length) (e:up.getD i 0=i):grp.getD i 0=i:=by
 have:=(h.2 i hi).2;rwa[if_pos e] at this
theorem Up.own {up grp:List Nat} (h:Up up grp) {i:Nat} (hi:i<up.length):grp.getD (grp.getD i 0) 0=grp.getD i 0:=by
 have:=h.le i hi;exact h.fix (by omega) this.2
theorem Up.next {up grp:List Nat} (h:Up up grp) {i:Nat} (hi:i<up.length):grp.getD (up.getD i 0) 0=grp.getD i 0:=by
 have:=(h.2 i hi).2;by_cases e:up.getD i 0=i
 ·rw[e]
 rw[if_neg e] at this;exact this.symm
theorem xK (l:List Nat) (i v j:Nat) (hi:i<l.length):(l.set i v).getD j 0=if j=i then v else l.getD j 0:=by
 by_cases e:j=i
 ·subst e;simp[hi]
 simp[List.getD,List.getElem?_set_ne (Ne.symm e),e]
theorem Up.aIr {up grp:List Nat} (h:Up up grp) {i:Nat} (hi:i<up.length) (e:up.getD i 0≠i):Up (up.set i (up.getD (up.getD i 0) 0)) grp:=by
 have h1:=(h.2 i hi).1;have h2:=(h.2 (up.getD i 0) (by omega)).1;refine⟨by simpa using h.1,fun j hj=>?_⟩;rw[xK _ _ _ _ hi];by_cases ej:j=i
 ·subst ej
  simp only[if_true];rw[if_neg (by omega),h.next (by omega),h.next hi];exact⟨by omega,rfl⟩
 rw[if_neg ej];exact h.2 j (by simpa using hj)
theorem Up.put {up grp:List Nat} (h:Up up grp):Up (up++[up.length]) (grp++[grp.length]):=by
 refine⟨by simp[h.1],fun i hi=>?_⟩;by_cases e:i=up.length
 ·subst e
  simp[h.1]
 have hi':i<up.length:=by simp at hi;omega
 have h1:=h.2 i hi';have e1:(up++[up.length]).getD i 0=up.getD i 0:=by simp only[List.getD];rw[List.getElem?_append_left hi']
 have e2:(grp++[grp.length]).getD i 0=grp.getD i 0:=by have:=h.1;simp only[List.getD];rw[List.getElem?_append_left (by omega)]
 have e3:(grp++[grp.length]).getD (up.getD i 0) 0=grp.getD (up.getD i 0) 0:=by have:=h.1;simp only[List.getD];rw[List.getElem?_append_left (by simpa[List.getD] using (by omega:up.getD i 0<grp.length))]
 rw[e1,e2,e3];exact h1
def relabel (grp:List Nat) (i j:Nat):List Nat:=grp.map fun g=>if g=max i j then min i j else g
theorem getD_map (grp:List Nat) (f:Nat→Nat) (i:Nat) (hi:i<grp.length):(grp.map f).getD i 0=f (grp.getD i 0):=by simp[List.getD,hi]
theorem Up.join {up grp:List Nat} (h:Up up grp) {i j:Nat} (hi:i<up.length) (hj:j<up.length) (ei:up.getD i 0=i) (ej:up.getD j 0=j) (ne:i≠j):Up (up.set (max i j) (min i j)) (relabel grp i j):=by
 have hl:=h.1;have hm:max i j<up.length:=by omega
 refine⟨by simp[relabel,h.1],fun k hk=>?_⟩;have hk':k<up.length:=by simpa using hk
 obtain⟨h1,h2⟩:=h.2 k hk';unfold relabel;rw[xK _ _ _ _ hm,getD_map _ _ _ (by omega)];have gi:=h.fix hi ei;have gj:=h.fix hj ej;by_cases e:k=max i j
 ·subst e
  simp only[if_true];have gm:grp.getD (max i j) 0=max i j:=by
   rcases Nat.le_total i j with q | q
   ·rw[Nat.max_eq_right q];exact gj
   rw[Nat.max_eq_left q];exact gi
  have gn:grp.getD (min i j) 0=min i j:=by
   rcases Nat.le_total i j with q | q
   ·rw[Nat.min_eq_left q];exact gi
   rw[Nat.min_eq_right q];exact gj
  rw[getD_map _ _ _ (by omega),gm,gn,if_pos rfl,if_neg (by omega),if_neg (by omega)];exact⟨by omega,rfl⟩
 rw[if_neg e,getD_map _ _ _ (by omega),h2];refine⟨h1,?_⟩;by_cases q:up.getD k 0=k
 ·rw[if_pos q,if_pos q,if_neg e]
 rw[if_neg q,if_neg q]
def St.join (s:St) (x y:Int):St :=
 let t:=(s.put x).put y
 ⟨t.all,relabel t.grp (t.hd (t.all.idxOf x)) (t.hd (t.all.idxOf y))⟩
def St.same (s:St) (x y:Int):Bool:=decide (x∈s.all)&&decide (y∈s.all)&&s.hd (s.all.idxOf x)==s.hd (s.all.idxOf y)
theorem nL (grp:List Nat) (i:Nat):relabel grp i i=grp:=by
 unfold relabel;rw[List.map_congr_left (g:=id)]
 ·simp
 intro g _;simp only[Nat.max_self,Nat.min_self,id];split <;> omega
theorem St.gM {s:St} {x:Int} (h:x∈s.all):s.put x=s:=if_pos h
theorem St.fA {s:St} {x:Int} (h:x ∉ s.all):s.put x=⟨s.all++[x],s.grp++[s.all.length]⟩:=if_neg h
theorem St.aFA {s:St} {x:Int} (h:x ∉ s.all) (hl:s.all.length=s.grp.length):(s.put x).count=s.count+1:=by
 rw[St.fA h];unfold St.count;simp only[List.length_append,List.length_cons,List.length_nil,Nat.zero_add];rw[List.range_succ,List.countP_append]
 congr 1
 ·refine List.countP_congr (fun i hi=>?_)
  have hi':i<s.grp.length:=List.mem_range.1 hi;simp only[List.getD];rw[List.getElem?_append_left hi']
 simp[hl]
theorem St.count_le (s:St):s.count≤s.grp.length:=by
 unfold St.count;have:=List.countP_le_length (p:=fun i=>s.grp.getD i 0==i) (l:=List.range s.grp.length);simpa using this
theorem oP (p q:Nat→Bool) (m:Nat) (hp:p m=true) (hq:q m=false) (h:∀ k,k≠m→p k=q k):∀ n,m<n→(List.range n).countP p=(List.range n).countP q+1
 | 0,hm=>by omega
 | n+1,hm=>by
  rw[List.range_succ,List.countP_append,List.countP_append];by_cases e:m=n
  ·subst e
   have:(List.range m).countP p=(List.range m).countP q:=List.countP_congr (fun k hk=>by rw[h k (by have:=List.mem_range.1 hk;omega)]);simp[this,hp,hq]
  have ih:=oP p q m hp hq h n (by omega);have:p n=q n:=h n (Ne.symm e);simp only[List.countP_singleton,this,ih];omega
theorem St.qA {all:List Int} {grp:List Nat} {i j:Nat} (hi:i<grp.length) (hj:j<grp.length) (ei:grp.getD i 0=i) (ej:grp.getD j 0=j) (ne:i≠j) :
  St.count ⟨all,grp⟩=St.count ⟨all,relabel grp i j⟩+1:=by
 have gm:grp.getD (max i j) 0=max i j:=by
  rcases Nat.le_total i j with q | q
  ·rw[Nat.max_eq_right q];exact ej
  rw[Nat.max_eq_left q];exact ei
 have gn:grp.getD (min i j) 0=min i j:=by
  rcases Nat.le_total i j with q | q
  ·rw[Nat.min_eq_left q];exact ei
  rw[Nat.min_eq_right q];exact ej
 unfold St.count;simp only[show (relabel grp i j).length=grp.length by simp[relabel]];refine oP _ _ (max i j) (by simp only[gm,beq_self_eq_true]) ?_ ?_ _ (by omega)
 ·simp only[relabel]
  rw[getD_map _ _ _ (by omega),gm,if_pos rfl];exact beq_eq_false_iff_ne.2 (by omega)
 intro k hk;by_cases hl:k<grp.length
 ·simp only[relabel]
  rw[getD_map _ _ _ hl];by_cases e:grp.getD k 0=max i j
  ·rw[e,if_pos rfl,beq_eq_false_iff_ne.2 (Ne.symm hk)]
   refine (beq_eq_false_iff_ne.2 (fun e2=>?_)).symm;rw[←e2,gn] at e;omega
  rw[if_neg e]
 have e1:grp.getD k 0=0:=by simp[List.getD,Nat.not_lt.1 hl]
 have e2:(relabel grp i j).getD k 0=0:=by simp[List.getD,relabel,Nat.not_lt.1 hl]
 rw[e1,e2]
def St.jB (s:St) (x y:Int):Bool :=
 let t:=(s.put x).put y
 t.hd (t.all.idxOf x) != t.hd (t.all.idxOf y)
theorem St.lP (s:St) (x:Int):x∈(s.put x).all:=by
 by_cases h:x∈s.all
 ·rwa[St.gM h]
 rw[St.fA h];simp
theorem St.iT {s:St} {x:Int} (y:Int) (h:x∈s.all):x∈(s.put y).all:=by
 by_cases hy:y∈s.all
 ·rwa[St.gM hy]
 rw[St.fA hy];simp[h]
theorem St.mW {s:St} {x:Int} (y:Int) (h:x∈s.all):(s.put y).all.idxOf x=s.all.idxOf x:=by
 by_cases hy:y∈s.all
 ·rw[St.gM hy]
 rw[St.fA hy];simp[List.idxOf_append,h]
theorem St.rV (s:St) (x:Int):s.all.length≤(s.put x).all.length∧(s.put x).all.length≤s.all.length+1:=by
 by_cases h:x∈s.all
 ·rw[St.gM h];omega
 rw[St.fA h];simp
theorem St.aF6 (s:St) (x y:Int):s.jB x y=(((s.put x).put y).hd ((s.put x).all.idxOf x) != ((s.put x).put y).hd (((s.put x).put y).all.idxOf y)):=by
 unfold St.jB;rw[←St.mW (s:=s.put x) y (s.lP x)]
theorem St.join_eq (s:St) (x y:Int):s.join x y=⟨((s.put x).put y).all,relabel ((s.put x).put y).grp (((s.put x).put y).hd ((s.put x).all.idxOf x)) (((s.put x).put y).hd (((s.put x).put y).all.idxOf y))⟩:=by
 unfold St.join;rw[←St.mW (s:=s.put x) y (s.lP x)]
structure St.Ok (s:St):Prop where
 len:s.all.length=s.grp.length
 nodup:s.all.Nodup
 le:∀ i,i<s.grp.length→s.hd i≤i
 own:∀ i,i<s.grp.length→s.hd (s.hd i)=s.hd i
theorem Chg.t{o o':List Nat}{a b c:World}(h:Chg o a b)(k:Chg o' b c)(hs:∀j∈o',j∈o∨a.heap.size≤j:=by simp):Chg o a c:=h.trans k hs
theorem Chg.c{o:List Nat}{a w:World}(h:Chg o a w){p:Addr}{v:Value}(hc:a.cell? p=some v)(hn:p.block∉o:=by simp):w.cell? p=some v:=h.cell hc hn
end Go.Proofs.YtkacjmoamgjfpaaGreat
