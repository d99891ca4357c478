/- What a cycle of darts is, plainly; the contract of side.leaves. Conditions: a graph that lies in memory and reads so; a dart of it. -/
import Derived.Test.YtkacjmoamgjfpaaGreatYxRegs8
namespace Go.Proofs.YtkacjmoamgjfpaaGreat
open Go.RowKit Go.Maps
namespace Plain
end Plain
end Go.Proofs.YtkacjmoamgjfpaaGreat
namespace Go.Proofs.YtkacjmoamgjfpaaGreat.Plain
def lf (L:Int→Option Int) (d:Int):Int:=(L d).getD 0
def sideJoin (L:Int→Option Int) (p:Pt) (cy:List Int):Nat→St
 | 0=>⟨[],[]⟩
 | k+1=>if p.e.getD k 0∈cy.map (· / 2) then sideJoin L p cy k else (sideJoin L p cy k).join (lf L (2*p.e.getD k 0)) (lf L (2*p.e.getD k 0+1))
def sideHead (L:Int→Option Int) (cy:List Int):Int:=lf L (cy.getD 0 0)
theorem sideJoin_on {L:Int→Option Int} {p:Pt} {cy:List Int} {k:Nat} (h:p.e.getD k 0∈cy.map (· / 2)):sideJoin L p cy (k+1)=sideJoin L p cy k:=if_pos h
theorem sideJoin_off {L:Int→Option Int} {p:Pt} {cy:List Int} {k:Nat} (h:p.e.getD k 0 ∉ cy.map (· / 2)):sideJoin L p cy (k+1)=(sideJoin L p cy k).join (lf L (2*p.e.getD k 0)) (lf L (2*p.e.getD k 0+1)):=if_neg h
theorem join_len (s:St) (x y:Int):(s.join x y).all.length≤s.all.length+2:=by
 rw[St.join_eq];have h1:=(s.len_put x).2;have h2:=((s.put x).len_put y).2;show ((s.put x).put y).all.length≤_;omega
theorem numOf_i64 {L:Int→Option Int} (h:∀ y v,L y=some v→0≤v∧v<1000000000) (y:Int):0≤lf L y∧lf L y<1000000000:=by
 unfold lf;cases e:L y with
 | none=>exact⟨by simp,by simp⟩
 | some v=>exact h y v e
theorem leftOf_small {ll:List (List Int)} (W:List Face) (hl:ll.length≤30000) (y v:Int) (h:leftOf ll W y=some v):0≤v∧v<1000000000:=by
 unfold leftOf at h;cases e:regionAt (places8 W) y with
 | none=>rw[e] at h;cases h
 | some k =>
  rw[e] at h;simp only[Option.map_some,Option.some.injEq] at h;have:=numOf_small ll (W.getD k (0,[])).1;omega
end Go.Proofs.YtkacjmoamgjfpaaGreat.Plain
namespace Go.Proofs.YtkacjmoamgjfpaaGreat
open Go.RowKit Go.Maps
theorem Own.chg' {w wr:World} {pb:Nat} {s:St} (h:Own w pb s wr):Chg [] w wr:=by obtain⟨own,-,h2,-⟩:=h;exact h2
theorem own_joins {w wr:World} {pb:Nat} {s:St} {x y:Int} (hx:I64 x) (hy:I64 y) (hn:s.all.length<17179869184) (h:Own w pb s wr) :
  Calls Tryz.prog 69 #[.pointer (some ⟨pb,0,none⟩),.int .i64 x,.int .i64 y] wr fun e w'=>e=.returned (.bool (s.joins x y))∧Own w pb (s.join x y) w':=by
 obtain⟨own,h1,h2,h3⟩:=h;exact (join_any pb own s x y wr hx hy hn h1).mono fun e w' q=>⟨q.1,Own.turn h2 h3 q.2⟩
def SNow (a:World) (pb sb r:Nat) (s:St) (w:World):Prop:=∃ own,SetsObj w pb own s∧(∀ j∈own,a.heap.size≤j∧j≠sb∧j≠r)∧a.heap.size≤sb∧sb<w.heap.size∧r<w.heap.size
theorem SNow.chg {a w w':World} {pb sb r:Nat} {s:St} {l:List Nat} (h:SNow a pb sb r s w) (hc:Chg l w w') (hl:∀ j∈l,j=sb∨j=r):SNow a pb sb r s w':=by
 obtain⟨own,h1,h2,h5,h3,h4⟩:=h;have:=hc.size;exact⟨own,h1.chg hc (fun b hb q=>(hl b q).elim (h2 b hb).2.1 (h2 b hb).2.2),h2,h5,by omega,by omega⟩
theorem ranges_chg {w w':World} {b r n:Nat} {D:DataW Unit} {left:Lit→Bool} {cnt:Nat} {l:List Nat} (h:w.ranges Tryz.prog 3 (plainElem Tryz.prog 3) b r n D left cnt) (hc:Chg l w w') (hb:b ∉ l) (hr:r ∉ l):w'.ranges Tryz.prog 3 (plainElem Tryz.prog 3) b r n D left cnt:=by
 obtain⟨es,clock,since,seen,c0,h1,F,hs,hD,h2,rest⟩:=h;exact⟨es,clock,since,seen,c0,hc.heap h1 hb,F,hs,hD,hc.heap h2 hr,rest⟩
end Go.Proofs.YtkacjmoamgjfpaaGreat
namespace Go.Proofs.YtkacjmoamgjfpaaGreat.Plain
def seat (turn:List (List Int)) (v:Int):Int:=if 0<(turnAt turn v).length then (turnAt turn v).getD 0 0 else -1 - v
end Go.Proofs.YtkacjmoamgjfpaaGreat.Plain
namespace Go.Proofs.YtkacjmoamgjfpaaGreat
open Go.RowKit Go.Maps
end Go.Proofs.YtkacjmoamgjfpaaGreat
namespace Go.Proofs.YtkacjmoamgjfpaaGreat
def St.rel (s:St) (x y:Int):Prop:=x=y∨s.same x y=true
theorem St.same_iff {s:St} {x y:Int}:s.same x y=true↔x∈s.all∧y∈s.all∧s.hd (s.all.idxOf x)=s.hd (s.all.idxOf y):=by
 unfold St.same;rw[Bool.and_eq_true,Bool.and_eq_true,decide_eq_true_iff,decide_eq_true_iff,beq_iff_eq,and_assoc]
theorem St.rel_refl (s:St) (x:Int):s.rel x x:=Or.inl rfl
theorem St.rel_symm {s:St} {x y:Int} (h:s.rel x y):s.rel y x:=by
 rcases h with h | h
 ·exact Or.inl h.symm
 obtain⟨h1,h2,h3⟩:=St.same_iff.1 h;exact Or.inr (St.same_iff.2 ⟨h2,h1,h3.symm⟩)
theorem St.rel_trans {s:St} {x y z:Int} (h:s.rel x y) (k:s.rel y z):s.rel x z:=by
 rcases h with rfl | h
 ·exact k
 rcases k with rfl | k
 ·exact Or.inr h
 obtain⟨h1,h2,h3⟩:=St.same_iff.1 h;obtain⟨k1,k2,k3⟩:=St.same_iff.1 k;exact Or.inr (St.same_iff.2 ⟨h1,k2,h3.trans k3⟩)
theorem St.rel_nil {x y:Int}:St.rel ⟨[],[]⟩ x y↔x=y:=by simp[St.rel,St.same]
theorem St.hd_put_old {s:St} (hs:s.Ok) {a x:Int} (hx:x∈s.all):(s.put a).hd ((s.put a).all.idxOf x)=s.hd (s.all.idxOf x):=by
 rw[St.idx_put_of a hx];by_cases h:a∈s.all
 ·rw[St.put_in h]
 rw[St.put_new h];have h1:=St.Ok.idx_lt hx;have h2:=hs.len;unfold St.hd List.getD;rw[List.getElem?_append_left (by omega)]
theorem St.hd_put_new {s:St} (hs:s.Ok) {a:Int} (h:a ∉ s.all):(s.put a).hd ((s.put a).all.idxOf a)=s.all.length:=by
 rw[St.put_new h];simp[St.hd,List.getD,List.idxOf_append,h,hs.len]
theorem St.rel_put {s:St} (hs:s.Ok) (a x y:Int):(s.put a).rel x y↔s.rel x y:=by
 by_cases h:a∈s.all
 ·rw[St.put_in h]
 constructor
 ·rintro (rfl | hxy)
  ·exact Or.inl rfl
  obtain⟨m1,m2,h3⟩:=St.same_iff.1 hxy;have n1:x∈s.all∨x=a:=by rw[St.put_new h] at m1;simpa using m1
  have n2:y∈s.all∨y=a:=by rw[St.put_new h] at m2;simpa using m2
  clear m1 m2 hxy;rcases n1 with h1 | rfl
  ·rcases n2 with h2 | rfl
   ·rw[St.hd_put_old hs h1,St.hd_put_old hs h2] at h3
    exact Or.inr (St.same_iff.2 ⟨h1,h2,h3⟩)
   rw[St.hd_put_old hs h1,St.hd_put_new hs h] at h3;have:=hs.hd_lt h1;omega
  rcases n2 with h2 | rfl
  ·rw[St.hd_put_new hs h,St.hd_put_old hs h2] at h3
   have:=hs.hd_lt h2;omega
  exact Or.inl rfl
 rintro (rfl | hxy)
 ·exact Or.inl rfl
 obtain⟨h1,h2,h3⟩:=St.same_iff.1 hxy;exact Or.inr (St.same_iff.2 ⟨St.mem_put_of a h1,St.mem_put_of a h2,by rw[St.hd_put_old hs h1,St.hd_put_old hs h2];exact h3⟩)
theorem St.rel_at {s:St} {x y:Int} (h:s.rel x y) (hy:y∈s.all):x∈s.all∧s.hd (s.all.idxOf x)=s.hd (s.all.idxOf y):=by
 rcases h with rfl | h
 ·exact⟨hy,rfl⟩
 obtain⟨h1,-,h3⟩:=St.same_iff.1 h;exact⟨h1,h3⟩
theorem St.rel_join {s:St} (hs:s.Ok) (a b x y:Int):(s.join a b).rel x y↔s.rel x y∨(s.rel x a∧s.rel b y)∨(s.rel x b∧s.rel a y):=by
 have ht:=(hs.put a).put b;have hm:=s.put_put_mem a b;have hr:∀ u v,s.rel u v↔((s.put a).put b).rel u v:=fun u v=>by rw[St.rel_put (hs.put a),St.rel_put hs]
 rw[hr x y,hr x a,hr b y,hr x b,hr a y];have hj:s.join a b=⟨((s.put a).put b).all,relabel ((s.put a).put b).grp (((s.put a).put b).hd (((s.put a).put b).all.idxOf a)) (((s.put a).put b).hd (((s.put a).put b).all.idxOf b))⟩:=rfl;rw[hj];clear hj hr;generalize (s.put a).put b=t at *;obtain⟨ha,hb⟩:=hm;obtain⟨A,hA⟩:∃ A,t.hd (t.all.idxOf a)=A:=⟨_,rfl⟩;obtain⟨B,hB⟩:∃ B,t.hd (t.all.idxOf b)=B:=⟨_,rfl⟩;rw[hA,hB];have hh:∀ {u:Int},u∈t.all→St.hd ⟨t.all,relabel t.grp A B⟩ (t.all.idxOf u)=if t.hd (t.all.idxOf u)=max A B then min A B else t.hd (t.all.idxOf u):=by
  intro u hu;unfold relabel St.hd;exact getD_map _ _ _ (by rw[←ht.len];exact St.Ok.idx_lt hu)
 constructor
 ·rintro (rfl | h)
  ·exact Or.inl (Or.inl rfl)
  obtain⟨h1,h2,h3⟩:=St.same_iff.1 h;have h1:x∈t.all:=h1;have h2:y∈t.all:=h2;replace h3:St.hd ⟨t.all,relabel t.grp A B⟩ (t.all.idxOf x)=St.hd ⟨t.all,relabel t.grp A B⟩ (t.all.idxOf y):=h3;rw[hh h1,hh h2] at h3;by_cases e:t.hd (t.all.idxOf x)=t.hd (t.all.idxOf y)
  ·exact Or.inl (Or.inr (St.same_iff.2 ⟨h1,h2,e⟩))
  have h4:(t.hd (t.all.idxOf x)=A∧t.hd (t.all.idxOf y)=B)∨(t.hd (t.all.idxOf x)=B∧t.hd (t.all.idxOf y)=A):=by
   split at h3 <;> split at h3 <;> omega
  rcases h4 with ⟨e1,e2⟩ | ⟨e1,e2⟩
  ·exact Or.inr (Or.inl ⟨Or.inr (St.same_iff.2 ⟨h1,ha,e1.trans hA.symm⟩),Or.inr (St.same_iff.2 ⟨hb,h2,hB.trans e2.symm⟩)⟩)
  exact Or.inr (Or.inr ⟨Or.inr (St.same_iff.2 ⟨h1,hb,e1.trans hB.symm⟩),Or.inr (St.same_iff.2 ⟨ha,h2,hA.trans e2.symm⟩)⟩)
 have mk:∀ {u v:Int},u∈t.all→v∈t.all→(if t.hd (t.all.idxOf u)=max A B then min A B else t.hd (t.all.idxOf u))=(if t.hd (t.all.idxOf v)=max A B then min A B else t.hd (t.all.idxOf v))→St.rel ⟨t.all,relabel t.grp A B⟩ u v:=fun {u v} h1 h2 h3 =>
  Or.inr (St.same_iff.2 ⟨h1,h2,by show St.hd ⟨t.all,relabel t.grp A B⟩ (t.all.idxOf u)=St.hd ⟨t.all,relabel t.grp A B⟩ (t.all.idxOf v);rw[hh h1,hh h2];exact h3⟩)
 rintro (h | ⟨h1,h2⟩ | ⟨h1,h2⟩)
 ·rcases h with rfl | h
  ·exact Or.inl rfl
  obtain⟨h1,h2,h3⟩:=St.same_iff.1 h;exact mk h1 h2 (by rw[h3])
 ·obtain⟨k1,k2⟩:=St.rel_at h1 ha
  obtain⟨k3,k4⟩:=St.rel_at (St.rel_symm h2) hb;refine mk k1 k3 ?_;rw[k2,k4,hA,hB];split <;> split <;> omega
 obtain⟨k1,k2⟩:=St.rel_at h1 hb;obtain⟨k3,k4⟩:=St.rel_at (St.rel_symm h2) ha;refine mk k1 k3 ?_;rw[k2,k4,hA,hB];split <;> split <;> omega
theorem St.rel_joined {s:St} (hs:s.Ok) (a b:Int):(s.join a b).rel a b:=(St.rel_join hs a b a b).2 (Or.inr (Or.inl ⟨s.rel_refl a,s.rel_refl b⟩))
end Go.Proofs.YtkacjmoamgjfpaaGreat
namespace Go.Proofs.YtkacjmoamgjfpaaGreat.Plain
def g1:Gr:=⟨4,[(0,1),(1,2),(2,0)]⟩
def p1:Pt:=⟨[0,1,2,3],[0,1,2]⟩
def t1:List (List Int):=[[0,5],[1,2],[3,4],[]]
def w1:List Face:=[(-4,[]),(0,[0,2,4]),(1,[1,5,3])]
theorem err1:p1.err g1=0:=by decide
theorem part1:PartOk g1 p1:=Pt.ok_of_err err1
theorem near1 {u w:Int} (h:Near g1 p1 u w):(u=0∧w=1)∨(u=1∧w=2)∨(u=2∧w=0)∨(u=1∧w=0)∨(u=2∧w=1)∨(u=0∧w=2):=by
 obtain⟨e,he,h⟩:=h;simp only[p1,List.mem_cons,List.not_mem_nil,or_false] at he;have q0:g1.at 0=(0,1):=rfl;have q1:g1.at 1=(1,2):=rfl;have q2:g1.at 2=(2,0):=rfl;rcases he with rfl | rfl | rfl
 ·rw[q0] at h;simp only[Prod.mk.injEq] at h;omega
 ·rw[q1] at h;simp only[Prod.mk.injEq] at h;omega
 rw[q2] at h;simp only[Prod.mk.injEq] at h;omega
theorem near01:Near g1 p1 0 1:=⟨0,by decide,Or.inl rfl⟩
theorem near02:Near g1 p1 0 2:=⟨2,by decide,Or.inr rfl⟩
theorem come1 (u:Int):u∈([0,1,2]:List Int)↔Come g1 p1 (-1) 0 u:=by
 refine come_iff (by decide) (fun u hu=>?_) (fun u hu w hw _=>?_) u
 ·simp only[List.mem_cons,List.not_mem_nil,or_false] at hu
  rcases hu with rfl | rfl | rfl
  ·exact .here
  ·exact Come.step .here near01 (by decide)
  exact Come.step .here near02 (by decide)
 have:=near1 hw;simp only[List.mem_cons,List.not_mem_nil,or_false];omega
theorem come3 (u:Int):u∈([3]:List Int)↔Come g1 p1 (-1) 3 u:=by
 refine come_iff (by decide) (fun u hu=>?_) (fun u hu w hw _=>?_) u
 ·rw[List.mem_singleton.1 hu];exact .here
 have:=near1 hw;rw[List.mem_singleton.1 hu] at this;omega
theorem comp1:comp g1 p1 0=[0,1,2]:=by
 have:comp g1 p1 0=p1.v.filter fun u=>decide (u∈([0,1,2]:List Int)):=by
  unfold comp;exact List.filter_congr fun u _=>by rw[decide_eq_decide];exact (come1 u).symm
 rw[this];decide
theorem comp3:comp g1 p1 3=[3]:=by
 have:comp g1 p1 3=p1.v.filter fun u=>decide (u∈([3]:List Int)):=by
  unfold comp;exact List.filter_congr fun u _=>by rw[decide_eq_decide];exact (come3 u).symm
 rw[this];decide
theorem roots1:roots g1 p1=[0,3]:=by
 have h1:∀ v:Int,v∈p1.v→((∀ u∈p1.v,Come g1 p1 (-1) v u→v≤u)↔v=0∨v=3):=by
  intro v hv;constructor
  ·intro h
   simp only[p1,List.mem_cons,List.not_mem_nil,or_false] at hv;rcases hv with rfl | rfl | rfl | rfl
   ·exact Or.inl rfl
   ·have:=h 0 (by decide) (((come1 1).1 (by decide)).symm (by decide)).2;omega
   ·have:=h 0 (by decide) (((come1 2).1 (by decide)).symm (by decide)).2;omega
   exact Or.inr rfl
  rintro (rfl | rfl)
  ·intro u hu _
   simp only[p1,List.mem_cons,List.not_mem_nil,or_false] at hu;omega
  intro u _ hc;have:=(come3 u).2 hc;simp only[List.mem_cons,List.not_mem_nil,or_false] at this;omega
 have:roots g1 p1=p1.v.filter fun v=>decide (v=0∨v=3):=by
  unfold roots;exact List.filter_congr fun u hu=>by rw[decide_eq_decide];exact h1 u hu
 rw[this];decide
theorem turns1:TurnsOk g1 p1 t1:=by
 refine turns_of_rows part1 rfl fun v hv=>?_;have hv:(v:Int)<4:=hv;rcases (show v=0∨v=1∨v=2∨v=3 by omega) with rfl | rfl | rfl | rfl <;> (unfold rowOk;decide)
theorem trk1:Trk g1 p1 t1 [(0,[0,2,4]),(1,[1,5,3])] p1.darts:=by
 refine⟨⟨fun c hc=>?_,by decide⟩,by decide,fun f hf=>?_,by decide,fun f hf=>?_,by decide⟩
 ·simp only[List.map_cons,List.map_nil,List.mem_cons,List.not_mem_nil,or_false] at hc
  rcases hc with rfl | rfl
  ·exact⟨by decide,by decide,show nextDart g1 t1 4=0 by decide⟩
  exact⟨by decide,by decide,show nextDart g1 t1 3=1 by decide⟩
 ·simp only[List.mem_cons,List.not_mem_nil,or_false] at hf
  rcases hf with rfl | rfl
  ·exact⟨_,rfl⟩
  exact⟨_,rfl⟩
 simp only[List.mem_cons,List.not_mem_nil,or_false] at hf;rcases hf with rfl | rfl
 ·exact⟨[],[1,2,3,4,5],by decide,by decide⟩
 exact⟨[0],[2,3,4,5],by decide,by decide⟩
theorem walks1:WalksOk g1 p1 t1 w1:=trk1.walks part1
theorem walksOf1:walksOf g1 p1 t1=w1:=(walks1.eq err1).symm
theorem turnErr1:turnErr g1 p1 t1=0:=turnErr_ok err1 turns1
theorem flat1:Flat g1 p1 t1:=by
 intro r hr;rw[walksOf1];rw[roots1] at hr;unfold genusAt;simp only[List.mem_cons,List.not_mem_nil,or_false] at hr;rcases hr with rfl | rfl
 ·rw[comp1];decide
 rw[comp3];decide
theorem flatErr1:flatErr g1 p1 t1=0:=flatErr_ok turnErr1 flat1
theorem pieceIx10:pieceIx g1 p1 0=0:=pieceIx_eq part1 (by rw[roots1];decide) (by rw[roots1];show (0:Int)∈comp g1 p1 0;rw[comp1];decide)
theorem pieceIx11:pieceIx g1 p1 1=0:=pieceIx_eq part1 (by rw[roots1];decide) (by rw[roots1];show (1:Int)∈comp g1 p1 0;rw[comp1];decide)
theorem pieceIx13:pieceIx g1 p1 3=1:=pieceIx_eq part1 (by rw[roots1];decide) (by rw[roots1];show (3:Int)∈comp g1 p1 3;rw[comp3];decide)
theorem owner14:ownerOf g1 p1 w1 (-4)=some 1:=by
 have:ownerOf g1 p1 w1 (-4)=some ((pieceIx g1 p1 3:Nat):Int):=rfl;rw[this,pieceIx13];rfl
theorem owner10:ownerOf g1 p1 w1 0=some 0:=by
 have:ownerOf g1 p1 w1 0=some ((pieceIx g1 p1 0:Nat):Int):=rfl;rw[this,pieceIx10];rfl
theorem owner11:ownerOf g1 p1 w1 1=some 0:=by
 have:ownerOf g1 p1 w1 1=some ((pieceIx g1 p1 1:Nat):Int):=rfl;rw[this,pieceIx11];rfl
theorem run1 {k:Int} (hk:k=0∨k=1):sameRun (ownerOf g1 p1 w1) [[-4,k]] (St.new (upTo 2),[]) 1=some ((St.new (upTo 2)).join 1 0,[-4,k]):=by
 have ho:ownerOf g1 p1 w1 k=some 0:=by rcases hk with rfl | rfl;exact owner10;exact owner11
 refine sameRun_next (c:=(St.new (upTo 2),[])) rfl ?_ ?_
 ·rcases hk with rfl | rfl <;> decide
 refine listRun_next (c:=(St.new (upTo 2),[-4])) (k:=1) ?_ ?_
 ·refine listRun_next (c:=(St.new (upTo 2),[])) (k:=0) rfl ?_
  exact keyStep_first (a:=1) owner14 (by simp)
 refine keyStep_join (a:=0) (b:=1) (by decide) ho ?_ ?_ ?_ (by decide)
 ·rcases hk with rfl | rfl <;> decide
 ·rcases hk with rfl | rfl <;> decide
 show (ownerOf g1 p1 w1 (-4)).getD 0=1;rw[owner14];rfl
theorem plan1w {k:Int} (hk:k=0∨k=1):planErr g1 p1 t1 [[-4,k]]=0:=by
 rw[planErr_run flatErr1,roots1,walksOf1];show (match sameRun (ownerOf g1 p1 w1) [[-4,k]] (St.new (upTo 2),[]) 1 with | none=>(7:Int) | some c=>if 1<c.1.count then 7 else 0)=0;rw[run1 hk];show (if 1<((St.new (upTo 2)).join 1 0).count then (7:Int) else 0)=0;decide
theorem sideJoin_ok (L:Int→Option Int) (p:Pt) (cy:List Int) (k:Nat):(sideJoin L p cy k).Ok:=by
 induction k with
 | zero=>exact St.ok_nil
 | succ k ih =>
  by_cases h:p.e.getD k 0∈cy.map (· / 2)
  ·rw[sideJoin_on h];exact ih
  rw[sideJoin_off h];exact ih.join _ _
def sideRel (L:Int→Option Int) (p:Pt) (cy:List Int) (x y:Int):Prop:=(sideJoin L p cy p.e.length).rel x y
theorem sideJoin_mono {L:Int→Option Int} {p:Pt} {cy:List Int} {x y:Int} {k:Nat} (h:(sideJoin L p cy k).rel x y) (m:Nat):(sideJoin L p cy (k+m)).rel x y:=by
 induction m with
 | zero=>exact h
 | succ m ih =>
  by_cases q:p.e.getD (k+m) 0∈cy.map (· / 2)
  ·rw[←Nat.add_assoc,sideJoin_on q];exact ih
  rw[←Nat.add_assoc,sideJoin_off q,St.rel_join (sideJoin_ok L p cy _)];exact Or.inl ih
theorem sideRel_edge {L:Int→Option Int} {p:Pt} {cy:List Int} {e:Int} (he:e∈p.e) (hn:e ∉ cy.map (· / 2)):sideRel L p cy (lf L (2*e)) (lf L (2*e+1)):=by
 obtain⟨k,hk,rfl⟩:=mem_getD he;have h1:(sideJoin L p cy (k+1)).rel (lf L (2*p.e.getD k 0)) (lf L (2*p.e.getD k 0+1)):=by
  rw[sideJoin_off hn];exact St.rel_joined (sideJoin_ok L p cy k) _ _
 have:=sideJoin_mono h1 (p.e.length - (k+1));rwa[show k+1+(p.e.length - (k+1))=p.e.length by omega] at this
theorem ring_mem {q:Int→Int} {c:List Int} {x:Int} (h:Ring q c) (hx:x∈c):q x∈c:=by
 obtain⟨l,hr,hl⟩:=h.from hx;refine hl.mem_iff.1 ?_;cases l with
 | nil=>have e:q x=x:=hr;rw[e];simp
 | cons y m=>have e:q x=y:=hr.1;rw[e];simp
theorem left_next {g:Gr} {p:Pt} {turn:List (List Int)} {W:List Face} (ll:List (List Int)) (hpe:p.err g=0) (hW:WalksOk g p turn W) {x:Int} (hx:x∈p.darts):leftOf ll W (nextDart g turn x)=leftOf ll W x∧(leftOf ll W x).isSome=true:=by
 obtain⟨F,e,hT⟩:=hW.split;obtain⟨l,hl,hxl⟩:=List.mem_flatten.1 (hT.cover x hx);obtain⟨f,hf,rfl⟩:=List.mem_map.1 hl;have hn:=ring_mem (hT.rings.ring f.2 hl) hxl;have hfW:f∈W:=by rw[e];exact List.mem_append.2 (Or.inr hf)
 obtain⟨i,hi,hfi⟩:=List.getElem_of_mem hfW;have hm:marks f=f.2:=marks_some (by intro q;rw[q] at hxl;simp at hxl);have hp8:=places8_getD hi;rw[show W.getD i (0,[])=f by simp[List.getD,hi,hfi],hm] at hp8;have hnd:=places_nodup hpe hW;have hi8:i<(places8 W).length:=by rw[places8_len];exact hi
 unfold leftOf;rw[regionAt_hit hnd hi8 (by rw[hp8];exact hn),regionAt_hit hnd hi8 (by rw[hp8];exact hxl)];exact⟨rfl,rfl⟩
theorem twin_cases (d:Int):(d=2*(d / 2)∧twin d=2*(d / 2)+1)∨(d=2*(d / 2)+1∧twin d=2*(d / 2)):=by unfold twin;split <;> omega
end Go.Proofs.YtkacjmoamgjfpaaGreat.Plain
namespace Go.Proofs.YtkacjmoamgjfpaaGreat
open Go.RowKit Go.Maps
namespace Plain
end Plain
namespace Plain
end Plain
theorem alloc_at (w:World) (o:Obj) (n:Nat) (h:w.heap.size=n):(w.alloc o).heap[n]?=some o∧(w.alloc o).heap.size=n+1∧∀ (b:Nat) (o':Obj),w.heap[b]?=some o'→(w.alloc o).heap[b]?=some o':=by
 subst h;exact⟨heap_alloc_new w o,by simp,fun b o' hb=>((Chg.refl [] w).alloc o).heap hb (by simp)⟩
theorem ints_two {w:World} {b:Nat} {x y:Int} (h:w.heap[b]?=some (.cells #[.int .i64 x,.int .i64 y] 3)) (hx:I64 x) (hy:I64 y):IntsAt w (.slice (some ⟨b,0,none⟩) 2 2) [x,y]:=by
 refine⟨_,2,rfl,by simp[hx,hy],by simp,fun _=>⟨b,0,rfl,fun i hi=>?_⟩⟩;simp at hi;rw[cell_of_row _ _ _ _ _ _ h];rcases i with _ | _ | i
 ·rfl
 ·rfl
 omega
theorem ints_three {w:World} {b:Nat} {x y z:Int} (h:w.heap[b]?=some (.cells #[.int .i64 x,.int .i64 y,.int .i64 z] 3)) (hx:I64 x) (hy:I64 y) (hz:I64 z):IntsAt w (.slice (some ⟨b,0,none⟩) 3 3) [x,y,z]:=by
 refine⟨_,3,rfl,by simp[hx,hy,hz],by simp,fun _=>⟨b,0,rfl,fun i hi=>?_⟩⟩;simp at hi;rw[cell_of_row _ _ _ _ _ _ h];rcases i with _ | _ | _ | i
 ·rfl
 ·rfl
 ·rfl
 omega
theorem lit_three (w:World) {x y z:Int} (hx:I64 x) (hy:I64 y) (hz:I64 z):IntsAt (w.alloc (.cells #[.int .i64 x,.int .i64 y,.int .i64 z] 3)) (.slice (some ⟨w.heap.size,0,none⟩) 3 3) [x,y,z]:=ints_three (heap_alloc_new w _) hx hy hz
theorem capOk (b n:Nat) (h:n≤100):CapOk (.slice (some ⟨b,0,none⟩) n n):=⟨_,n,n,rfl,Nat.le_refl _,by omega⟩
theorem gr_tri {w:World} {b:Nat} (h:w.heap[b]?=some (.cells #[.int .i64 0,.int .i64 1,.int .i64 1,.int .i64 2,.int .i64 2,.int .i64 0] 82)):GrAt w (.agg #[.int .i64 4,.slice (some ⟨b,0,none⟩) 3 3]) Plain.g1:=by
 have hc:=fun i=>cell_of_row w b i _ _ _ h;refine⟨_,3,rfl,I64.mk (by decide) (by decide),by decide,fun i hi=>?_,fun i hi=>⟨b,0,rfl,?_⟩⟩
 ·have hi:i<3:=hi
  rcases (show i=0∨i=1∨i=2 by omega) with rfl | rfl | rfl
  ·exact⟨I64.mk (by decide) (by decide),I64.mk (by decide) (by decide)⟩
  ·exact⟨I64.mk (by decide) (by decide),I64.mk (by decide) (by decide)⟩
  exact⟨I64.mk (by decide) (by decide),I64.mk (by decide) (by decide)⟩
 have hi:i<3:=hi;rcases (show i=0∨i=1∨i=2 by omega) with rfl | rfl | rfl
 ·exact⟨(hc 0).trans rfl,(hc 1).trans rfl⟩
 ·exact⟨(hc 2).trans rfl,(hc 3).trans rfl⟩
 exact⟨(hc 4).trans rfl,(hc 5).trans rfl⟩
theorem pl_tri {w:World} {b0 b1 b2 b3 b4 b5:Nat} {k:Int} (hk:I64 k) (h0:w.heap[b0]?=some (.cells #[.int .i64 0,.int .i64 5] 3)) (h1:w.heap[b1]?=some (.cells #[.int .i64 1,.int .i64 2] 3)) (h2:w.heap[b2]?=some (.cells #[.int .i64 3,.int .i64 4] 3))
  (h3:w.heap[b3]?=some (.cells #[.slice (some ⟨b0,0,none⟩) 2 2,.slice (some ⟨b1,0,none⟩) 2 2,.slice (some ⟨b2,0,none⟩) 2 2,.slice none 0 0] 27)) (h4:w.heap[b4]?=some (.cells #[.int .i64 (-4),.int .i64 k] 3)) (h5:w.heap[b5]?=some (.cells #[.slice (some ⟨b4,0,none⟩) 2 2] 27)) :
  PlAt w (.agg #[.slice (some ⟨b3,0,none⟩) 4 4,.slice (some ⟨b5,0,none⟩) 1 1]) Plain.t1 [[-4,k]]:=by
 have i0:∀ x:Int,-100≤x→x≤100→I64 x:=fun x a b=>I64.mk (by omega) (by omega);have hc3:=fun i=>cell_of_row w b3 i _ _ _ h3;have hc5:=fun i=>cell_of_row w b5 i _ _ _ h5;refine⟨_,_,rfl,⟨_,4,rfl,by decide,fun i hi=>?_⟩,⟨_,1,rfl,by simp,fun i hi=>?_⟩⟩
 ·have hi:i<4:=hi
  rcases (show i=0∨i=1∨i=2∨i=3 by omega) with rfl | rfl | rfl | rfl
  ·exact⟨b3,0,_,rfl,(hc3 0).trans rfl,capOk _ _ (by decide),ints_two h0 (i0 _ (by decide) (by decide)) (i0 _ (by decide) (by decide))⟩
  ·exact⟨b3,0,_,rfl,(hc3 1).trans rfl,capOk _ _ (by decide),ints_two h1 (i0 _ (by decide) (by decide)) (i0 _ (by decide) (by decide))⟩
  ·exact⟨b3,0,_,rfl,(hc3 2).trans rfl,capOk _ _ (by decide),ints_two h2 (i0 _ (by decide) (by decide)) (i0 _ (by decide) (by decide))⟩
  exact⟨b3,0,_,rfl,(hc3 3).trans rfl,⟨none,0,0,rfl,by decide,by decide⟩,IntsAt.nil _⟩
 have hi:i<1:=by simpa using hi
 obtain rfl:i=0:=by omega
 exact⟨b5,0,_,rfl,(hc5 0).trans rfl,capOk _ _ (by decide),ints_two h4 (i0 _ (by decide) (by decide)) hk⟩
end Go.Proofs.YtkacjmoamgjfpaaGreat
namespace Go.Proofs.YtkacjmoamgjfpaaGreat
open Go.RowKit Go.Maps
namespace Plain
theorem key_marks {g:Gr} {p:Pt} {turn:List (List Int)} {W:List Face} (hpe:p.err g=0) (hW:WalksOk g p turn W) {f:Face} (hf:f∈W) (d:Int):(f.1=d∨d∈f.2)↔d∈marks f:=by
 rcases face_cases hpe hW hf with ⟨h1,-,-,-⟩ | ⟨n,l,h1,h2,-⟩
 ·rw[marks_nil h1,h1]
  simp only[List.not_mem_nil,or_false,List.mem_singleton];exact eq_comm
 rw[marks_some (by rw[h2];simp),h1,h2];simp only[List.mem_cons];exact⟨fun h=>h.elim (fun e=>Or.inl e.symm) id,Or.inr⟩
def keyOf8 (W:List Face) (d:Int):Int:=((regionAt (places8 W) d).map fun (k:Nat)=>(W.getD k (0,[])).1).getD 0
theorem keyOf8_hit {W:List Face} {d:Int} {k:Nat} (h:regionAt (places8 W) d=some k):keyOf8 W d=(W.getD k (0,[])).1:=by unfold keyOf8;rw[h];rfl
theorem regsOf_is {g:Gr} {p:Pt} {turn same:List (List Int)} (h:Parted g p turn same):IsRegs g p turn same (regionsOf g p turn same):=by
 rw[←(regs_ref h).eq h];exact regs_ref h
theorem left_num {g:Gr} {p:Pt} {turn same:List (List Int)} (h:Parted g p turn same) {d:Int} (hd:(leftOf (regionsOf g p turn same) (walksOf g p turn) d).isSome=true) :
  ∃ i:Nat,i<(regionsOf g p turn same).length∧keyOf8 (walksOf g p turn) d∈(regionsOf g p turn same).getD i []∧lf (leftOf (regionsOf g p turn same) (walksOf g p turn)) d=i∧(∀ j,j<i→keyOf8 (walksOf g p turn) d ∉ (regionsOf g p turn same).getD j [])∧(regionAt (places8 (walksOf g p turn)) d).isSome=true:=by
 have hr:=regsOf_is h;have hflat:=(hr.perm.flatten).trans h.all;generalize regionsOf g p turn same=ll at *;have hnd:ll.flatten.Nodup:=hflat.nodup_iff.2 h.keysNodup;unfold lf;unfold leftOf at hd ⊢;cases e:regionAt (places8 (walksOf g p turn)) d with
 | none=>rw[e] at hd;cases hd
 | some k =>
  rw[keyOf8_hit e];have hk:=(regionAt_lt e).1;rw[places8_len] at hk;have hm:((walksOf g p turn).getD k (0,[])).1∈ll.flatten:=hflat.mem_iff.2 (List.mem_map.2 ⟨_,by simp[List.getD,hk],rfl⟩);simp only[Option.map_some,Option.getD_some];unfold numOf;cases e2:regionAt ll ((walksOf g p turn).getD k (0,[])).1 with
  | none=>exact absurd hm (regionAt_none.1 e2)
  | some i =>
   obtain⟨h1,h2⟩:=regionAt_lt e2;refine⟨i,h1,h2,rfl,fun j hj hin=>?_,rfl⟩;have:=regionAt_hit hnd (by omega) hin;rw[e2] at this;have:=Option.some.inj this;omega
end Plain
set_option maxRecDepth 100000 in
set_option maxHeartbeats 4000000 in
theorem refKey_any (ov:Value) (W:List Plain.Face) (xs:List Value) (d:Int) (B:Nat) (w:World) (hl:W.length<1000000000) (hm:∀ f∈W,(f.1=d∨d∈f.2)↔d∈Plain.marks f) (hn:(Plain.places8 W).flatten.Nodup) (h:Nest w B 90 2 ov W.length xs (faceCells W)) :
  Calls Tryz.prog 122 #[ov,.int .i64 d] w fun e w'=>e=.returned (.tuple #[.int .i64 (Plain.keyOf8 W d),.bool (Plain.regionAt (Plain.places8 W) d).isSome])∧Chg [] w w':=by
 have HN:=lh h;have HM:=lh hm;have HND:=lh hn;obtain⟨oo,oc,rfl⟩:=h.shape;clear h hm hn
 go_enter Tryz.func122,Tryz.ntmps122
 go_wp2
 go_loopw [6] (fun c wr=>∃ k:Nat,k≤W.length∧c=.int .i64 k∧Hid (∀ i,i<k→d ∉ Plain.marks (W.getD i (0,[])))∧Chg [] w wr) (fun c _=>W.length - (intOf c).toNat)
 case atStart=>exact⟨0,Nat.zero_le _,rfl,lh (by omega),Chg.refl _ _⟩
 case round =>
  obtain⟨k,hk,rfl,hno,hc⟩:=hrel;have HC:=lh hc;by_cases hlt:k<W.length
  ·obtain⟨wg,wcc,fa,fc,ewo,m0,m1,ur⟩:=nest_face HN.out rfl hlt
   simp only[Value.slice.injEq] at ewo;obtain⟨rfl,-,rfl⟩:=ewo;have f0:=hc.c m0;have f1:=hc.c m1;have UR:=lh (ur.ints.fresh hc);have hfm:W.getD k (0,[])∈W:=by simp[List.getD,hlt]
   have hmk:=HM.out _ hfm;have HHIT:=lh (fun (h:d∈Plain.marks (W.getD k (0,[])))=>(show Plain.regionAt (Plain.places8 W) d=some k from Plain.regionAt_hit HND.out (by rw[Plain.places8_len];exact hlt) (by rw[Plain.places8_getD hlt];exact h)));have HNO:=lh (fun (h:d ∉ Plain.marks (W.getD k (0,[]))) i (hi:i<k+1)=>show d ∉ Plain.marks (W.getD i (0,[])) from by
    by_cases e:i=k
    ·rw[e];exact h
    exact hno.out i (by omega))
   have HKO:=lh (fun h=>Plain.keyOf8_hit (W:=W) (d:=d) (k:=k) h);obtain⟨f,hf⟩:∃ f,W.getD k (0,[])=f:=⟨_,rfl⟩;rw[hf] at f0 f1 UR hmk HHIT HNO HKO;have HMK:=lh hmk;clear m0 m1 ur hc hf hfm hmk;by_cases q:f.1=d
   ·have b1:(f.1==d)=true:=by rw[beq_iff_eq];exact q
    have HE:=lh (HHIT.out (HMK.out.1 (Or.inl q)));have HKE:=lh (HKO.out HE.out);clear q;go_wp2;exact bodyPost_ret (v:=.tuple #[.int .i64 f.1,.bool true]) (by simp[results,Tryz.results122,go_sem]) rfl ⟨by rw[HKE.out,HE.out];rfl,HC.out⟩
   have b1:(f.1==d)=false:=by rw[beq_eq_false_iff_ne];exact q
   go_wp2_with fail
   refine (in_any _ f.2 d _ UR.out).mono ?_;rintro e w2 ⟨rfl,hc2⟩;have HC2:=lh (HC.out.t hc2);have f0:=hc2.c f0;clear f1 hc2;by_cases hin:d∈f.2
   ·have HE:=lh (HHIT.out (HMK.out.1 (Or.inr hin)))
    have HKE:=lh (HKO.out HE.out);rw[decide_eq_true hin];clear hin q b1;go_wp2;exact bodyPost_ret (v:=.tuple #[.int .i64 f.1,.bool true]) (by simp[results,Tryz.results122,go_sem]) rfl ⟨by rw[HKE.out,HE.out];rfl,HC2.out⟩
   have HE:=lh (HNO.out fun h=>(HMK.out.2 h).elim q hin);rw[decide_eq_false hin];clear hin q b1;go_wp2
   go_roundw
   case rel=>exact⟨k+1,by omega,by go_num,HE,HC2.out⟩
   case measure=>simp[intOf];omega
  have e:k=W.length:=by omega
  subst e;have HE:=lh (show Plain.regionAt (Plain.places8 W) d=none from Plain.regionAt_none.2 fun h=>by
   obtain⟨l,hl,hdl⟩:=List.mem_flatten.1 h;obtain⟨f,hf,rfl⟩:=List.mem_map.1 hl;obtain⟨i,hi,rfl⟩:=List.getElem_of_mem hf;exact hno.out i hi (by simpa[List.getD,hi] using hdl))
  have HKE:=lh (show Plain.keyOf8 W d=0 by unfold Plain.keyOf8;rw[HE.out];rfl);clear hc;go_wp2;exact bodyPost_ret (v:=.tuple #[.int .i64 0,.bool false]) (by simp[results,Tryz.results122,go_sem]) rfl ⟨by rw[HKE.out,HE.out];rfl,HC.out⟩
set_option maxRecDepth 100000 in
set_option maxHeartbeats 4000000 in
theorem refLeft_any (vg vp vx:Value) (g:Plain.Gr) (p:Plain.Pt) (turn same:List (List Int)) (d:Int) (w:World) (hpl:p.e.length≤1000) (hpv:p.v.length≤1000) (hrl:∀ v,(Plain.turnAt turn v).length<4294967296) (hsl:same.length≤10000) (hz:Plain.planErr g p turn same=0) (hd:(Plain.leftOf (Plain.regionsOf g p turn same) (Plain.walksOf g p turn) d).isSome=true) (hg:GrAt w vg g) (hp:PtAt w vp p) (hx:PlAt w vx turn same) :
  Calls Tryz.prog 63 #[vg,vp,vx,.int .i64 d] w fun e w'=>e=.returned (.int .i64 (Plain.lf (Plain.leftOf (Plain.regionsOf g p turn same) (Plain.walksOf g p turn)) d))∧Chg [] w w':=by
 have hte:=(Plain.flatErr_zero (Plain.planErr_zero hz).1).1;obtain⟨hpe,hto⟩:=Plain.turnErr_zero hte;have hW:=Plain.walks_ok hpe hto;have hpt:=Plain.parted hz hW;have HPZ:=lh hz;have HPE:=lh hpe;have HTO:=lh hto;have HRL:=lh hrl;have HLN:=lh (Plain.left_num hpt hd);have HMK:=lh (fun f (hf:f∈Plain.walksOf g p turn)=>Plain.key_marks hpe hW hf d);have HPN:=lh (Plain.places_nodup hpe hW);have hwl:=hW.len;have hrg:(Plain.regionsOf g p turn same).length≤10000:=by
  rw[←(Plain.regs_ref hpt).eq hpt];have:=Plain.regTo_len (Plain.walksOf g p turn) same (Plain.walksOf g p turn).length;omega
 have HRG:=lh hrg;clear hte hpe hto hW hpt hrl hz hd hrg;have HG:=lh hg;have HP:=lh hp;have HX:=lh hx;obtain⟨eo,cap,rfl,hn,hm,hsm,hcell⟩:=hg;obtain⟨v1,v2,rfl,hv,he⟩:=hp;obtain⟨ao,ac,rfl,has,ham,hacell⟩:=hv;obtain⟨bo,bc,rfl,hbs,hbm,hbcell⟩:=he;have HAC:=lh hacell;have HBC:=lh hbcell;obtain⟨t1,t2,rfl,ht,hs⟩:=hx;have HT:=lh ht;have HS:=lh hs;obtain⟨tno,tc,rfl,htm,-⟩:=ht;obtain⟨so,sc,rfl,hsm2,hsc⟩:=hs;obtain⟨-,-,hc1⟩:=box_two w #[.int .i64 g.n,.slice eo g.e.length cap] #[.slice ao p.v.length ac,.slice bo p.e.length bc] 24 29;obtain⟨-,hc3⟩:=box_three w #[.int .i64 g.n,.slice eo g.e.length cap] #[.slice ao p.v.length ac,.slice bo p.e.length bc] #[.slice tno turn.length tc,.slice so same.length sc] 24 29 32;have HC1:=lh (hc1.t hc3);have HBXS:=lh (fun w2 h=>three_boxes w (g:=g) (p:=p) (turn:=turn) (same:=same) (eo:=eo) (ao:=ao) (bo:=bo) (tno:=tno) (so:=so) (cap:=cap) (ac:=ac) (bc:=bc) (tc:=tc) (sc:=sc) (w2:=w2) h);clear hcell hacell hbcell hsm hbs has hn hc1 hc3 hsc;obtain⟨x0,x1,y0,y1,z0,z1,hsz⟩:=HBXS.out _ (Chg.refl _ _)
 go_enter Tryz.func63,Tryz.ntmps63
 go_wp2_with fail
 refine (refWalks_any _ _ _ g p turn _ (by omega) (by omega) HPE.out HTO.out HRL.out (HG.out.fresh HC1.out) (HP.out.fresh HC1.out) (HT.out.fresh HC1.out)).mono ?_;rintro e w2 ⟨wv,wx,rfl,hnw,hc2⟩;obtain⟨w1,hw1⟩:∃ w1,(((w.alloc (.cells #[.int .i64 g.n,.slice eo g.e.length cap] 24)).alloc (.cells #[.slice ao p.v.length ac,.slice bo p.e.length bc] 29)).alloc (.cells #[.slice tno turn.length tc,.slice so same.length sc] 32))=w1:=⟨_,rfl⟩;rw[hw1] at HC1 HBXS hc2 hnw;clear hw1;have HNW:=lh hnw;have HC2:=lh hc2;have HW2:=lh (HC1.out.t HC2.out);have HBX:=lh (fun wx (hx:Chg [] w2 wx)=>HBXS.out wx (HC2.out.t hx));clear x0 x1 y0 y1 z0 z1 hsz hc2 hnw
 go_wp2_with fail
 refine (refKey_any _ (Plain.walksOf g p turn) _ d _ _ (by omega) HMK.out HPN.out HNW.out).mono ?_;rintro e w3 ⟨rfl,hc3⟩;have HC3:=lh hc3;have HW3:=lh (HW2.out.t hc3);obtain⟨x0,x1,y0,y1,z0,z1,hsz⟩:=HBX.out _ hc3;obtain⟨i0,hi0,hin0,hlf,hfirst,his⟩:=HLN.out;rw[his];have HIN:=lh hin0;have HFI:=lh hfirst;have HLF:=lh hlf;obtain⟨key,hkey⟩:∃ key,Plain.keyOf8 (Plain.walksOf g p turn) d=key:=⟨_,rfl⟩;rw[hkey] at HIN HFI ⊢;clear hc3 hin0 hfirst hlf his hkey HLN
 go_wp2_with fail
 refine (refRegions8_any _ _ _ g p turn same _ (by omega) (by omega) HRL.out hsl HPZ.out (HG.out.fresh HW3.out) (HP.out.fresh HW3.out) (HX.out.fresh HW3.out)).mono ?_;rintro e w4 ⟨rv,rfl,hrr,hc4⟩;have HRR:=lh hrr;have HW4:=lh (HW3.out.t hc4);obtain⟨ll,hll⟩:∃ ll,Plain.regionsOf g p turn same=ll:=⟨_,rfl⟩;have hrg:=HRG.out;rw[hll] at HRR HIN HFI hi0 hrg hrr HLF;have HLE:=lh hll;obtain⟨ro,rc,rfl,-,-⟩:=hrr;clear x0 x1 y0 y1 z0 z1 hsz hc4 hll;go_wp2
 go_loopw [13] (fun c wr=>∃ k:Nat,k≤ll.length∧c=.int .i64 k∧k≤i0∧Chg [] w4 wr) (fun c _=>ll.length - (intOf c).toNat)
 case atStart=>exact⟨0,Nat.zero_le _,rfl,Nat.zero_le _,Chg.refl _ _⟩
 case round =>
  obtain⟨k,hk,rfl,hki,hc⟩:=hrel;have HC:=lh hc;have hlt:k<ll.length:=by omega
  obtain⟨tb,toff,uo,uc,rfl,tcell,hrow⟩:=(HRR.out.fresh hc).row hlt;have HKI:=lh (fun (e:k=i0)=>(show key∈ll.getD k [] by rw[e];exact HIN.out));have HKO:=lh (fun (e:k≠i0)=>(show key ∉ ll.getD k [] from HFI.out k (by omega)));obtain⟨T,hT⟩:∃ T,ll.getD k []=T:=⟨_,rfl⟩;rw[hT] at tcell hrow HKI HKO;have HROW:=lh hrow;have HLK:=lh (fun (e:k=i0)=>(show Plain.lf (Plain.leftOf (Plain.regionsOf g p turn same) (Plain.walksOf g p turn)) d=k from by rw[HLE.out,HLF.out,e]));clear hrow hc hT;by_cases e:k=i0
  ·have HKE:=lh (HKI.out e)
   have HRV:=lh (HLK.out e);clear e
   go_wp2_with fail
   refine (in_any _ T key _ HROW.out).mono ?_;rintro e w5 ⟨rfl,hc5⟩;rw[decide_eq_true HKE.out];have HC5:=lh ((HW4.out.t HC.out).t hc5);clear hc5 tcell;go_wp2;go_ret;exact⟨ret_int HRV.out.symm,HC5.out⟩
  have HKE:=lh (HKO.out e);have hk2:k+1≤i0:=by omega
  clear e
  go_wp2_with fail
  refine (in_any _ T key _ HROW.out).mono ?_;rintro e w5 ⟨rfl,hc5⟩;rw[decide_eq_false HKE.out];have HC5:=lh (HC.out.t hc5);clear hc5 tcell;go_wp2
  go_roundw
  case rel=>exact⟨k+1,by omega,by go_num,hk2,HC5.out⟩
  case measure=>simp[intOf];omega
namespace Plain
end Plain
namespace Plain
def nearAt (L:Int→Option Int) (M:List Int) (j:Nat) (e:Int):Prop:=(lf L (2*e)=M.getD j 0→lf L (2*e+1)∈M)∧(lf L (2*e+1)=M.getD j 0→lf L (2*e)∈M)
structure LeftsAt (L:Int→Option Int) (p:Pt) (cy:List Int) (M:List Int) (i k:Nat):Prop where
 head:sideHead L cy∈M
 nodup:M.Nodup
 low:∀ r∈M,0≤r∧r≤10000
 rel:∀ r∈M,sideRel L p cy r (sideHead L cy)
 done:∀ j,j<i→∀ e∈p.e,e ∉ cy.map (· / 2)→nearAt L M j e
 now:∀ q,q<k→p.e.getD q 0 ∉ cy.map (· / 2)→nearAt L M i (p.e.getD q 0)
theorem lf_low {ll:List (List Int)} {W:List Face} (h:ll.length≤10000) (d:Int):0≤lf (leftOf ll W) d∧lf (leftOf ll W) d≤10000:=by
 unfold lf leftOf;cases regionAt (places8 W) d with
 | none=>simp
 | some k =>
  have:=numOf_small ll (W.getD k (0,[])).1;simp only[Option.map_some,Option.getD_some];omega
theorem regs_len {g:Gr} {p:Pt} {turn same:List (List Int)} (hpl:p.e.length≤1000) (hpv:p.v.length≤1000) (hz:planErr g p turn same=0):(regionsOf g p turn same).length≤10000:=by
 obtain⟨hpe,hto⟩:=turnErr_zero (flatErr_zero (planErr_zero hz).1).1;have hW:=walks_ok hpe hto;rw[←(regs_ref (parted hz hW)).eq (parted hz hW)];have:=regTo_len (walksOf g p turn) same (walksOf g p turn).length;have:=hW.len;omega
theorem left_dart {g:Gr} {p:Pt} {turn same:List (List Int)} (hz:planErr g p turn same=0) {d:Int} (hd:d∈p.darts):(leftOf (regionsOf g p turn same) (walksOf g p turn) d).isSome=true:=by
 obtain⟨hpe,hto⟩:=turnErr_zero (flatErr_zero (planErr_zero hz).1).1;exact (left_next _ hpe (walks_ok hpe hto) hd).2
end Plain
end Go.Proofs.YtkacjmoamgjfpaaGreat
