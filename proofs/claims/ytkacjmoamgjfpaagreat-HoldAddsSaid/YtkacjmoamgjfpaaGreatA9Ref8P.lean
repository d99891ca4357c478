/- The document's way to a plan's error: keys first, then groups that are told anew; it is plan.Right's. No program here. -/
import Derived.Test.YtkacjmoamgjfpaaGreatA9RefQ
namespace Go.Proofs.YtkacjmoamgjfpaaGreat
namespace aA
theorem aEX {s:St} (hs:s.Ok):s.count≤1↔∀ i j,i<s.grp.length→j<s.grp.length→s.hd i=s.hd j:=by
 have hc:s.count=((List.range s.grp.length).filter fun i=>s.grp.getD i 0==i).length:=by unfold St.count;rw[List.countP_eq_length_filter]
 have hn:((List.range s.grp.length).filter fun i=>s.grp.getD i 0==i).Nodup:=List.nodup_range.filter _;have hm:∀ i,i∈((List.range s.grp.length).filter fun i=>s.grp.getD i 0==i)↔i<s.grp.length∧s.hd i=i:=fun i=>by
  rw[List.mem_filter,List.mem_range];unfold St.hd;simp
 rw[hc];generalize ((List.range s.grp.length).filter fun i=>s.grp.getD i 0==i)=L at *;constructor
 ·intro h i j hi hj
  have h1:=(hm (s.hd i)).2 ⟨Nat.lt_of_le_of_lt (hs.le i hi) hi,hs.own i hi⟩;have h2:=(hm (s.hd j)).2 ⟨Nat.lt_of_le_of_lt (hs.le j hj) hj,hs.own j hj⟩
  match L,h with
  | [],_=>simp at h1
  | [a],_=>rw[List.mem_singleton.1 h1,List.mem_singleton.1 h2]
  | a :: b :: l,h=>simp at h
 intro h
 match L,hn with
 | [],_=>simp
 | [a],_=>simp
 | a :: b :: l,hn =>
  have h1:=(hm a).1 (by simp);have h2:=(hm b).1 (by simp);have:=h a b h1.1 h2.1;have e:a=b:=by rw[←h1.2,←h2.2];exact this
  rw[e] at hn;simp at hn
def gP (ow:Int→Option Int) (l:List Int) (met:List Int) (k:Nat):Prop :=
 ∀ i,i<k→(ow (l.getD i 0)).isSome=true∧l.getD i 0 ∉ met++l.take i∧(0<i→l.getD (i - 1) 0<l.getD i 0)
instance (ow:Int→Option Int) (l met:List Int) (k:Nat):Decidable (gP ow l met k):=by unfold gP;infer_instance
theorem lL {ow:Int→Option Int} {l met:List Int} {k:Nat}:gP ow l met (k+1)↔gP ow l met k∧((ow (l.getD k 0)).isSome=true∧l.getD k 0 ∉ met++l.take k∧(0<k→l.getD (k - 1) 0<l.getD k 0)):=by
 unfold gP;constructor
 ·exact fun h=>⟨fun i hi=>h i (by omega),h k (by omega)⟩
 rintro ⟨h1,h2⟩ i hi;by_cases e:i=k
 ·rw[e];exact h2
 exact h1 i (by omega)
def fW (a b:Nat) (grp:List Nat):List Nat:=grp.map fun x=>if x=b then a else x
def eC (ow:Int→Option Int) (grp:List Nat) (key:Int):Nat:=grp.getD ((ow key).getD 0).toNat 0
def dD (ow:Int→Option Int) (l:List Int) (grp:List Nat):Nat→Option (List Nat)
 | 0=>some grp
 | k+1=>(dD ow l grp k).bind fun q=>if k=0 then some q else if eC ow q (l.getD 0 0)=eC ow q (l.getD k 0) then none else some (fW (eC ow q (l.getD 0 0)) (eC ow q (l.getD k 0)) q)
structure Alike (n:Nat) (s:St) (grp:List Nat):Prop where
 ok:s.Ok
 all:s.all=bJ n
 len:grp.length=n
 same:∀ i j,i<n→j<n→(grp.getD i 0=grp.getD j 0↔s.hd i=s.hd j)
theorem aCo {n i:Nat} (hi:i<n):(bJ n).idxOf (i:Int)=i:=by
 have hn:(bJ n).Nodup:=by unfold bJ;exact List.Pairwise.map _ (fun a b hab=>by omega) (List.nodup_range (n:=n))
 have hl:(bJ n).length=n:=by simp[bJ]
 have e:(bJ n).getD i 0=(i:Int):=by simp[bJ,List.getD,hi]
 have:=nZ hn (i:=i) (by rw[hl];exact hi);rwa[e] at this
theorem Alike.start (n:Nat):Alike n (St.new (bJ n)) (List.range n):=by
 have h:=(kJ.start (fun _=>none) n);refine⟨h.ok,h.all,by simp,fun i j hi hj=>?_⟩;rw[St.vJ];rfl
theorem Alike.join {n:Nat} {s:St} {grp:List Nat} (h:Alike n s grp) {a b:Int} (ha:0≤a∧a<n) (hb:0≤b∧b<n) :
  (s.jB a b=true↔grp.getD a.toNat 0≠grp.getD b.toNat 0)∧Alike n (s.join a b) (fW (grp.getD a.toNat 0) (grp.getD b.toNat 0) grp):=by
 obtain⟨p,rfl⟩:∃ p:Nat,a=p:=⟨a.toNat,by omega⟩;obtain⟨q,rfl⟩:∃ q:Nat,b=q:=⟨b.toNat,by omega⟩;have hp:p<n:=by omega
 have hq:q<n:=by omega
 have ma:((p:Nat):Int)∈s.all:=by rw[h.all,iH];omega
 have mb:((q:Nat):Int)∈s.all:=by rw[h.all,iH];omega
 obtain⟨e1,e2⟩:=St.aAo ma mb;have i1:s.all.idxOf (p:Int)=p:=by rw[h.all];exact aCo hp
 have i2:s.all.idxOf (q:Int)=q:=by rw[h.all];exact aCo hq
 rw[i1,i2] at e1 e2;have hgl:s.grp.length=n:=by rw[←h.ok.len,h.all];simp[bJ]
 rw[Int.toNat_natCast,Int.toNat_natCast];refine⟨by rw[e2,bne_iff_ne,ne_eq,ne_eq,h.same p q hp hq],?_⟩;refine⟨h.ok.join _ _,by rw[e1];exact h.all,by unfold fW;rw[List.length_map];exact h.len,fun i j hi hj=>?_⟩;have g1:∀ x,x<n→(fW (grp.getD p 0) (grp.getD q 0) grp).getD x 0=if grp.getD x 0=grp.getD q 0 then grp.getD p 0 else grp.getD x 0:=fun x hx=>by
  unfold fW;rw[getD_map _ _ _ (by rw[h.len];exact hx)]
 have g2:∀ x,x<n→(s.join p q).hd x=if s.hd x=max (s.hd p) (s.hd q) then min (s.hd p) (s.hd q) else s.hd x:=fun x hx=>by
  rw[e1];unfold St.hd relabel;rw[getD_map _ _ _ (by rw[hgl];exact hx)]
 rw[g1 i hi,g1 j hj,g2 i hi,g2 j hj];have s1:=h.same i q hi hq;have s2:=h.same j q hj hq;have s3:=h.same i p hi hp;have s4:=h.same j p hj hp;have s5:=h.same i j hi hj;have s6:=h.same p q hp hq;generalize grp.getD i 0=x1 at *;generalize grp.getD j 0=x2 at *;generalize grp.getD p 0=x3 at *;generalize grp.getD q 0=x4 at *;generalize s.hd i=y1 at *;generalize s.hd j=y2 at *;generalize s.hd p=y3 at *;generalize s.hd q=y4 at *;clear e1 e2 g1 g2 i1 i2 ma mb;rcases Nat.le_total y3 y4 with q1 | q1
 ·rw[Nat.max_eq_right q1,Nat.min_eq_left q1]
  split <;> split <;> split <;> split <;> omega
 rw[Nat.max_eq_left q1,Nat.min_eq_right q1];split <;> split <;> split <;> split <;> omega
theorem xF {ow:Int→Option Int} {n:Nat} {l:List Int} {c:St × List Int} {grp:List Nat} (hb:∀ y a,ow y=some a→0≤a∧a<n) (hA:Alike n c.1 grp):∀ k,k≤l.length →
  (∀ d,cN ow l c k=some d→gP ow l c.2 k∧d.2=c.2++l.take k∧∃ q,dD ow l grp k=some q∧Alike n d.1 q)∧(cN ow l c k=none→¬ gP ow l c.2 k∨dD ow l grp k=none)
 | 0,_=>⟨fun d h=>by cases h;exact⟨fun i hi=>by omega,by simp,grp,rfl,hA⟩,fun h=>by cases h⟩
 | k+1,hk=>by
  obtain⟨i1,i2⟩:=xF (l:=l) hb hA k (by omega);have e1:cN ow l c (k+1)=(cN ow l c k).bind (dR ow l k):=rfl;cases hm:cN ow l c k with
  | none =>
   rw[hm] at e1;refine⟨fun d h=>(by rw[e1] at h;cases h),fun _=>?_⟩;rcases i2 hm with h | h
   ·exact Or.inl fun q=>h (lL.1 q).1
   refine Or.inr ?_;show (dD ow l grp k).bind _=none;rw[h];rfl
  | some m =>
   rw[hm] at e1;have e1:cN ow l c (k+1)=dR ow l k m:=e1;obtain⟨h1,h2,q,h3,h4⟩:=i1 m hm;have ej:dD ow l grp (k+1)=if k=0 then some q else if eC ow q (l.getD 0 0)=eC ow q (l.getD k 0) then none else some (fW (eC ow q (l.getD 0 0)) (eC ow q (l.getD k 0)) q):=by
    show (dD ow l grp k).bind _=_;rw[h3];rfl
   have hfirst:0<k→∃ b,ow (l.getD 0 0)=some b:=fun h0=>Option.isSome_iff_exists.1 (h1 0 h0).1;have htk:l.take (k+1)=l.take k++[l.getD k 0]:=eD (by omega);constructor
   ·intro d hd
    rw[e1] at hd;obtain⟨a,ha,g1,g2,g3,g4⟩:=kS hd;refine⟨lL.2 ⟨h1,by rw[ha];rfl,by rw[←h2];exact g1,g2⟩,by rw[g3,h2,htk,List.append_assoc],?_⟩;rcases g4 with ⟨rfl,e⟩ | ⟨h0,hj,e⟩
    ·exact⟨q,by rw[ej,if_pos rfl],by rw[e];exact h4⟩
    obtain⟨b,hob⟩:=hfirst h0;rw[hob] at hj e;obtain⟨w1,w2⟩:=h4.join (hb _ _ hob) (hb _ _ ha);have hne:=w1.1 hj;have ea:eC ow q (l.getD 0 0)=q.getD b.toNat 0:=by unfold eC;rw[hob];rfl
    have eb:eC ow q (l.getD k 0)=q.getD a.toNat 0:=by unfold eC;rw[ha];rfl
    refine⟨_,by rw[ej,if_neg (by omega),ea,eb,if_neg hne],?_⟩;rw[e];exact w2
   intro hd;rw[e1] at hd;by_cases hok:gP ow l c.2 (k+1)
   ·right
    obtain⟨-,o1,o2,o3⟩:=lL.1 hok;obtain⟨a,ha⟩:=Option.isSome_iff_exists.1 o1;rw[←h2] at o2;by_cases h0:k=0
    ·subst h0
     rw[jU ha o2] at hd;cases hd
    obtain⟨b,hob⟩:=hfirst (by omega);obtain⟨w1,w2⟩:=h4.join (hb _ _ hob) (hb _ _ ha);have ea:eC ow q (l.getD 0 0)=q.getD b.toNat 0:=by unfold eC;rw[hob];rfl
    have eb:eC ow q (l.getD k 0)=q.getD a.toNat 0:=by unfold eC;rw[ha];rfl
    rw[ej,if_neg h0,ea,eb];by_cases hj:m.1.jB b a=true
    ·rw[kQ (by omega) ha o2 (o3 (by omega)) (by rw[hob];rfl) hj] at hd
     cases hd
    have:¬ q.getD b.toNat 0≠q.getD a.toNat 0:=fun x=>hj (w1.2 x);rw[if_pos (by omega)]
   exact Or.inl hok
def iD (ow:Int→Option Int) (same:List (List Int)) (st:List Nat × List Int):Nat→Option (List Nat × List Int)
 | 0=>some st
 | i+1=>(iD ow same st i).bind fun c=>if bX same i then none else if gP ow (same.getD i []) c.2 (same.getD i []).length then (dD ow (same.getD i []) c.1 (same.getD i []).length).map fun q=>(q,c.2++same.getD i []) else none
theorem sO {ow:Int→Option Int} {n:Nat} {same:List (List Int)} (hb:∀ y a,ow y=some a→0≤a∧a<n):∀ i,
  (∀ d,cB ow same (St.new (bJ n),[]) i=some d→∃ q,iD ow same (List.range n,[]) i=some (q,d.2)∧Alike n d.1 q)∧(cB ow same (St.new (bJ n),[]) i=none→iD ow same (List.range n,[]) i=none)
 | 0=>⟨fun d h=>by cases h;exact⟨_,rfl,Alike.start n⟩,fun h=>by cases h⟩
 | i+1=>by
  obtain⟨i1,i2⟩:=sO (same:=same) hb i;have e1:cB ow same (St.new (bJ n),[]) (i+1)=(cB ow same (St.new (bJ n),[]) i).bind fun c=>if bX same i then none else cN ow (same.getD i []) c (same.getD i []).length:=rfl
  have e2:iD ow same (List.range n,[]) (i+1)=(iD ow same (List.range n,[]) i).bind fun c=>if bX same i then none else if gP ow (same.getD i []) c.2 (same.getD i []).length then (dD ow (same.getD i []) c.1 (same.getD i []).length).map fun q=>(q,c.2++same.getD i []) else none:=rfl
  cases hm:cB ow same (St.new (bJ n),[]) i with
  | none =>
   rw[hm] at e1;rw[i2 hm] at e2;exact⟨fun d h=>(by rw[e1] at h;cases h),fun _=>e2⟩
  | some m =>
   obtain⟨q,hq,hA⟩:=i1 m hm;rw[hm] at e1;rw[hq] at e2;have e1:cB ow same (St.new (bJ n),[]) (i+1)=if bX same i then none else cN ow (same.getD i []) m (same.getD i []).length:=e1
   have e2:iD ow same (List.range n,[]) (i+1)=if bX same i then none else if gP ow (same.getD i []) m.2 (same.getD i []).length then (dD ow (same.getD i []) q (same.getD i []).length).map fun x=>(x,m.2++same.getD i []) else none:=e2
   by_cases hbad:bX same i
   ·rw[if_pos hbad] at e1 e2
    exact⟨fun d h=>(by rw[e1] at h;cases h),fun _=>e2⟩
   rw[if_neg hbad] at e1 e2;obtain⟨l1,l2⟩:=xF (l:=same.getD i []) hb hA _ (Nat.le_refl _);constructor
   ·intro d h
    rw[e1] at h;obtain⟨k1,k2,r,k3,k4⟩:=l1 d h;rw[List.take_length] at k2;exact⟨r,by rw[e2,if_pos k1,k3,k2];rfl,k4⟩
   intro h;rw[e1] at h;rw[e2];rcases l2 h with k | k
   ·rw[if_neg k]
   split
   ·rw[k];rfl
   rfl
def sC (grp:List Nat):Prop:=∃ i,i<grp.length∧grp.getD i 0≠grp.getD 0 0
open Classical in
theorem uK {g:Gr} {p:Pt} {aB same:List (List Int)} (h:cD g p aB=0) (hp:bB g p) (hW:bV g p aB (aH g p aB)) :
  aN g p aB same=match iD (bH g p (aH g p aB)) same (List.range (roots g p).length,[]) same.length with
   | none=>7
   | some c=>if sC c.1 then 7 else 0:=by
 rw[fM h];have hb:∀ y a,bH g p (aH g p aB) y=some a→0≤a∧a<((roots g p).length:Int):=fun y a ha=>fO hp hW ha;obtain⟨r1,r2⟩:=sO (same:=same) hb same.length;cases hm:cB (bH g p (aH g p aB)) same (St.new (bJ (roots g p).length),[]) same.length with
 | none=>rw[r2 hm]
 | some d =>
  obtain⟨q,hq,hA⟩:=r1 d hm;rw[hq];dsimp only;have hgl:d.1.grp.length=(roots g p).length:=by rw[←hA.ok.len,hA.all];simp[bJ]
  have:1<d.1.count↔sC q:=by
   rw[←Nat.not_le,aEX hA.ok];constructor
   ·intro hx
    refine Classical.byContradiction fun hno=>hx fun i j hi hj=>?_;rw[hgl] at hi hj;have e:∀ x,x<(roots g p).length→q.getD x 0=q.getD 0 0:=fun x hx=>Classical.byContradiction fun y=>hno ⟨x,by rw[hA.len];exact hx,y⟩;exact (hA.same i j hi hj).1 ((e i hi).trans (e j hj).symm)
   rintro ⟨i,hi,hne⟩ hall;rw[hA.len] at hi;exact hne ((hA.same i 0 hi (by omega)).2 (hall i 0 (by omega) (by omega)))
  by_cases hx:1<d.1.count
  ·rw[if_pos hx,if_pos (this.1 hx)]
  rw[if_neg hx,if_neg fun y=>hx (this.2 y)]
end aA
end Go.Proofs.YtkacjmoamgjfpaaGreat
namespace Go.Proofs.YtkacjmoamgjfpaaGreat
open Go.RowKit Go.Maps
theorem mM {w:World} {B:Nat} (hB:B≤w.heap.size) {k:Int} (hk:I64 k):aM (w.alloc (.cells #[.int .i64 k] 3)) B (.slice (some ⟨w.heap.size,0,none⟩) 1 1) [k] :=
 ⟨World.ownsRow_lit w #[.int .i64 k] 1 hB (by decide) rfl,by simpa using hk,by simp⟩
theorem dS {ops:Array Oper} {rest:List Oper} {o:Oper} {a:Act} {Q:Exit→Act→World→Prop} {w w0:World} (hg:o.guard=none) (s x:Operand) (ho:o.op=.call { callee:=.builtin .append,args:=#[s,x],argTypes:=#[27,27] })
  {B:Nat} {v:Value} {l:List Int} {k:Int} (hs:a.eval s=v) (hx:a.eval x=.slice (some ⟨w0.heap.size,0,none⟩) 1 1) (h:aM w0 B v l) (hk:I64 k) (hB:B≤w0.heap.size) (hn:l.length<4294967290) (hw:w=w0.alloc (.cells #[.int .i64 k] 3))
  (hK:∀ v' w',aM w' B v' (l++[k])→Chg (aP v) w0 w'→(∀ b∈aP v',b∈aP v∨w0.heap.size≤b)→wpList Tryz.prog ops Q rest (a.put o.dst v') w'):wpList Tryz.prog ops Q (o :: rest) a w:=by
 subst hw;have hc:=(Chg.refl [] w0).alloc (.cells #[.int .i64 k] 3);refine aIa hg s x ho hs hx (h.chg hc (by simp)) (mM (B:=w0.heap.size) (Nat.le_refl _) hk) (Nat.le_trans hB hc.size) (by simp;omega) fun v' w' r1 r2 r3=>hK v' w' r1 ((hc.mono (by simp)).trans r2 fun j hj=>Or.inl hj) fun b hb=>(r3 b hb).imp id fun q=>Nat.le_trans hc.size q
theorem aL.cellAt {w:World} {ao:Option Addr} {n c:Nat} {l:List Int} (h:aL w (.slice ao n c) l) {i:Nat} (hi:i<l.length):∃ b off,ao=some ⟨b,off,none⟩∧w.cell? ⟨b,off+i,none⟩=some (.int .i64 (l.getD i 0)):=by
 obtain⟨ao',c',e',-,-,h⟩:=h;simp only[Value.slice.injEq] at e';obtain⟨rfl,-,rfl⟩:=e';obtain⟨b,off,rfl,h2⟩:=h (by intro q;rw[q] at hi;simp at hi);exact⟨b,off,rfl,h2 i hi⟩
theorem cG.row {w:World} {tno:Option Addr} {n tc:Nat} {ll:List (List Int)} (h:cG w (.slice tno n tc) ll) {k:Nat} (hk:k<ll.length):∃ b off uo uc,tno=some ⟨b,off,none⟩∧w.cell? ⟨b,off+k,none⟩=some (.slice uo (ll.getD k []).length uc)∧aL w (.slice uo (ll.getD k []).length uc) (ll.getD k []):=by
 obtain⟨ao,cap,e,-,h2⟩:=h;simp only[Value.slice.injEq] at e;obtain⟨rfl,rfl,rfl⟩:=e;obtain⟨b,off,u,rfl,h3,-,h5⟩:=h2 k hk;have h6:=h5;obtain⟨uo,uc,rfl,-⟩:=h5;exact⟨b,off,uo,uc,rfl,h3,h6⟩
theorem gH (w:World) (B:Nat):aM w B (.slice none 0 0) []:=⟨World.ownsRow_nil _ _ _ _,by simp,by simp⟩
set_option maxRecDepth 100000 in
set_option maxHeartbeats 4000000 in
theorem aAb (vg vp:Value) (g:aA.Gr) (p:aA.Pt) (v:Int) (w:World) (hE:p.e.length≤1000000) (hr:p.err g=0) (hg:dW w vg g) (hp:gC w vp p) :
  Calls Tryz.prog 123 #[vg,vp,.int .i64 v] w fun e w'=>∃ ov,e=.returned ov∧aM w' w.heap.size ov (aA.dX g p v)∧Chg [] w w':=by
 have HRE:=lh (aA.Pt.aV hr).2.2.1;have HGE:=lh (aA.Gr.aV (aA.Pt.aV hr).1);have hdl:=aA.dO p;have HDA:=lh (aA.uU g p v);rw[hdl] at HDA;have HDL:=lh hdl;have HD0:=lh (aA.zY g p v);clear hdl;have HG:=lh hg;have HP:=lh hp;obtain⟨eo,cap,rfl,hn,hm,hsm,hcell⟩:=hg;obtain⟨v1,v2,rfl,hv,he⟩:=hp;obtain⟨ao,ac,rfl,has,ham,hacell⟩:=hv;obtain⟨bo,bc,rfl,hbs,hbm,hbcell⟩:=he;have HAC:=lh hacell;have HBC:=lh hbcell;have HAS:=lh has;have HBS:=lh hbs;obtain⟨-,-,hc1⟩:=cK w #[.int .i64 g.n,.slice eo g.e.length cap] #[.slice ao p.v.length ac,.slice bo p.e.length bc] 24 29;have HC1:=lh hc1;have HBXS:=lh (fun w2 h=>iW w (g:=g) (p:=p) (eo:=eo) (ao:=ao) (bo:=bo) (cap:=cap) (ac:=ac) (bc:=bc) (w2:=w2) h);clear hcell hacell hbcell hsm has hbs hn hc1;obtain⟨x0,x1,y0,y1,hsz⟩:=HBXS.out _ (Chg.refl _ _);clear hr
 go_enter Tryz.func123,Tryz.ntmps123
 go_wp2;obtain⟨w1,hw1⟩:∃ w1,((w.alloc (.cells #[.int .i64 g.n,.slice eo g.e.length cap] 24)).alloc (.cells #[.slice ao p.v.length ac,.slice bo p.e.length bc] 29))=w1:=⟨_,rfl⟩;rw[hw1] at HC1 HBXS ⊢;clear hw1 x0 x1 y0 y1 hsz;have HB1:=lh HC1.out.size
 go_loopw [7,8] (fun ov c wr=>∃ k:Nat,k≤p.e.length∧c=.int .i64 k∧aM wr w1.heap.size ov (aA.gF g p v (2*k))∧Chg [] w1 wr) (fun _ c _=>p.e.length - (intOf c).toNat)
 case atStart=>exact⟨0,Nat.zero_le _,rfl,by rw[show 2*0=0 from rfl,HD0.out];exact gH _ _,Chg.refl _ _⟩
 case round =>
  obtain⟨k,hk,rfl,hrow,hc⟩:=hrel;have HROW:=lh hrow;have HC:=lh hc;obtain⟨oo,oc,rfl⟩:=hrow.shape;obtain⟨x0,x1,y0,y1,hsz⟩:=HBXS.out wr hc;by_cases hlt:k<p.e.length
  ·obtain⟨bb,boff,rfl,hbc⟩:=HBC.out (by intro e;rw[e] at hlt;simp at hlt)
   have HCK:=lh (HC1.out.c (hbc k hlt));have hre:=aA.eB HRE.out hlt;obtain⟨ei,hei⟩:∃ ei:Nat,p.e.getD k 0=(ei:Int):=⟨(p.e.getD k 0).toNat,by omega⟩;have HNX:=lh (fun s (hs:s<2)=>(show aA.gF g p v (2*k+s+1)=if g.tail ((2*ei+s:Nat):Int)=v then aA.gF g p v (2*k+s)++[((2*ei+s:Nat):Int)] else aA.gF g p v (2*k+s) by
    rw[aA.aAt (by rw[HDL.out];omega),aA.xD hlt s hs,hei];rw[show (2*(ei:Int)+(s:Int))=((2*ei+s:Nat):Int) by omega]))
   rw[hei] at HCK hre;have hei2:ei<g.e.length:=by omega
   have hglen:g.e.length<4294967296:=by have:=HGE.out.2.2.1;have:=HGE.out.1;omega
   have hgl2:g.e.length≤1024:=by have:=HGE.out.2.2.1;have:=HGE.out.1;omega
   have w2e:IntKind.i64.wrap (2*(ei:Int))=2*(ei:Int):=IntWalk.i64_in _ (by omega);clear hbc hre hrow hc;go_wp2
   go_loopw [7,9] (fun ov c wi=>∃ s:Nat,s≤2∧c=.int .i64 s∧aM wi w1.heap.size ov (aA.gF g p v (2*k+s))∧Chg [] w1 wi) (fun _ c _=>2 - (intOf c).toNat)
   case atStart=>exact⟨0,by omega,rfl,HROW.out,HC.out⟩
   case round =>
    rename World=>wi;obtain⟨s,hs,rfl,hrow,hc⟩:=hrel;have HROW:=lh hrow;have HC:=lh hc;obtain⟨oo,oc,rfl⟩:=hrow.shape;obtain⟨x0,x1,y0,y1,hsz⟩:=HBXS.out wi hc;have ck:=hc.c HCK.out;clear hrow hc;by_cases hs2:s<2
    ·have HN:=lh (HNX.out s hs2)
     have wad:IntKind.i64.wrap (2*(ei:Int)+(s:Int))=((2*ei+s:Nat):Int):=by rw[IntWalk.i64_in _ (by omega)];omega
     have hdlen:=aA.tI g p v (2*k+s);have HID:=lh (show I64 ((2*ei+s:Nat):Int) from I64.mk (by omega) (by omega));obtain⟨d,hd⟩:∃ d,2*ei+s=d:=⟨_,rfl⟩;rw[hd] at HN wad HID;have hd2:d / 2<g.e.length:=by omega
     clear hd;go_wp2;have hS0:Chg [] wi wi.drew:=(Chg.refl [] wi).drew;refine aF (Chg [] wi) [0,1,2,3,4,5,6,7,8,10,11] (Way.line [0,1,2,3,4,5,6,7,8,10,9,11] .done) (by kernel_rfl) (by kernel_rfl) ?_;simp only[Way.line]
     repeat
      first
       | (refine aE rfl (by rfl) (by rfl) (fun _ _ _ h=>h) hS0 ?_;simp only[Act.put,Z1,Z2,Z3,Z4,Z5,Z6])
       | (refine aC (v:=?_) rfl (by rfl) (by rfl) (fun _ _ _ h=>h) hS0 (fun w' hS'=>?_) ?_;rotate_left;(focus (have rd0:=hS'.c x0;have rd1:=hS'.c x1;have rd2:=hS'.c y0;have rd3:=hS'.c y1;have rd4:=hS'.c ck;clear hS';go_simp;try with_reducible rfl));simp only[Act.put,Z1,Z2,Z3,Z4,Z5,Z6])
       | (refine aD rfl (by rfl) (by rfl) hS0 ?_;simp only[Act.put,Z1,Z2,Z3,Z4,Z5,Z6])
     refine aI rfl (by rfl) (by rfl) (fun K hK=>?_);go_simp;refine (wN _ g d _ hd2 hglen (HG.out.fresh (HC1.out.t (HC.out.t hS0)))).mono ?_;rintro e w3 ⟨rfl,hcx⟩;have hS1:=hS0.t hcx;clear hS0 hcx;have hS0:=hS1;clear hS1;refine hK.out _ _ (fun _=>hS0) ?_;clear hK K
     try simp only[Act.put,Z1,Z2,Z3,Z4,Z5,Z6]
     repeat
      first
       | (refine aE rfl (by rfl) (by rfl) (fun _ _ _ h=>h) hS0 ?_;simp only[Act.put,Z1,Z2,Z3,Z4,Z5,Z6])
       | (refine aC (v:=?_) rfl (by rfl) (by rfl) (fun _ _ _ h=>h) hS0 (fun w' hS'=>?_) ?_;rotate_left;(focus (have rd0:=hS'.c x0;have rd1:=hS'.c x1;have rd2:=hS'.c y0;have rd3:=hS'.c y1;have rd4:=hS'.c ck;clear hS';go_simp;try with_reducible rfl));simp only[Act.put,Z1,Z2,Z3,Z4,Z5,Z6])
       | (refine aD rfl (by rfl) (by rfl) hS0 ?_;simp only[Act.put,Z1,Z2,Z3,Z4,Z5,Z6])
     refine aG ?_;have HC3:=lh (HC.out.t hS0);have HROW3:=lh (HROW.out.chg hS0 (by simp));clear x0 x1 y0 y1 hsz ck hS0;obtain⟨x0,x1,y0,y1,hsz⟩:=HBXS.out w3 HC3.out;have ck:=HC3.out.c HCK.out;by_cases ht:g.tail (d:Int)=v
     ·have HE:=lh (HN.out.trans (if_pos ht))
      have b1:(g.tail (d:Int)==v)=true:=by rw[beq_iff_eq];exact ht
      have HB3:=lh (show w1.heap.size≤w3.heap.size from HC3.out.size);clear ht
      go_wp2_with (at_builtin;refine dS rfl _ _ rfl (B:=w1.heap.size) (v:=.slice oo _ oc) rfl rfl HROW3.out HID.out HB3.out (by omega) rfl ?_;intro v6 w6 r6 c6 f6;have R6:=lh r6;have C6:=lh c6;clear r6 c6 f6)
      go_roundw
      case rel=>exact⟨s+1,by omega,by go_num,by rw[←Nat.add_assoc,HE.out];exact R6.out,HC3.out.trans C6.out (fun j hj=>Or.inr (by rw[HROW3.out.aP] at hj;exact (HROW3.out.low j hj).1))⟩
      case measure=>simp[intOf];omega
     have HE:=lh (HN.out.trans (if_neg ht));have b1:(g.tail (d:Int)==v)=false:=by rw[beq_eq_false_iff_ne];exact ht
     clear ht;go_wp2
     go_roundw
     case rel=>exact⟨s+1,by omega,by go_num,by rw[←Nat.add_assoc,HE.out];exact HROW3.out,HC3.out⟩
     case measure=>simp[intOf];omega
    have e:s=2:=by omega
    subst e;clear ck;go_wp2
    go_roundw
    case rel=>exact⟨k+1,by omega,by go_num,HROW.out,HC.out⟩
    case measure=>simp[intOf];omega
  have e:k=p.e.length:=by omega
  subst e;have HR:=lh (HROW.out.base HB1.out);rw[HDA.out] at HR ⊢;have HCF:=lh (HC1.out.t HC.out);clear hrow hc x0 x1;obtain⟨rn,hrn⟩:∃ rn,(aA.dX g p v).length=rn:=⟨_,rfl⟩;rw[hrn] at HR ⊢;clear hrn;go_wp2;go_ret;exact⟨_,rfl,HR.out,HCF.out⟩
end Go.Proofs.YtkacjmoamgjfpaaGreat
