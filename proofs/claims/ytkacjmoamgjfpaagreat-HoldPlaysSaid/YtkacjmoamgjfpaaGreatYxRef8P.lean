/- The document's way to a plan's error: keys first, then groups that are told anew; it is plan.Right's. No program here. -/
import Derived.Test.YtkacjmoamgjfpaaGreatYxRefQ
namespace Go.Proofs.YtkacjmoamgjfpaaGreat
namespace Plain
theorem heads_one {s:St} (hs:s.Ok):s.count≤1↔∀ i j,i<s.grp.length→j<s.grp.length→s.hd i=s.hd j:=by
 have hc:s.count=((List.range s.grp.length).filter fun i=>s.grp.getD i 0==i).length:=by unfold St.count;rw[List.countP_eq_length_filter]
 have hn:((List.range s.grp.length).filter fun i=>s.grp.getD i 0==i).Nodup:=List.nodup_range.filter _;have hm:∀ i,i∈((List.range s.grp.length).filter fun i=>s.grp.getD i 0==i)↔i<s.grp.length∧s.hd i=i:=fun i=>by
  rw[List.mem_filter,List.mem_range];unfold St.hd;simp
 rw[hc];generalize ((List.range s.grp.length).filter fun i=>s.grp.getD i 0==i)=L at *;constructor
 ·intro h i j hi hj
  have h1:=(hm (s.hd i)).2 ⟨Nat.lt_of_le_of_lt (hs.le i hi) hi,hs.own i hi⟩;have h2:=(hm (s.hd j)).2 ⟨Nat.lt_of_le_of_lt (hs.le j hj) hj,hs.own j hj⟩
  match L,h with
  | [],_=>simp at h1
  | [a],_=>rw[List.mem_singleton.1 h1,List.mem_singleton.1 h2]
  | a :: b :: l,h=>simp at h
 intro h
 match L,hn with
 | [],_=>simp
 | [a],_=>simp
 | a :: b :: l,hn =>
  have h1:=(hm a).1 (by simp);have h2:=(hm b).1 (by simp);have:=h a b h1.1 h2.1;have e:a=b:=by rw[←h1.2,←h2.2];exact this
  rw[e] at hn;simp at hn
def keysOk (ow:Int→Option Int) (l:List Int) (met:List Int) (k:Nat):Prop :=
 ∀ i,i<k→(ow (l.getD i 0)).isSome=true∧l.getD i 0 ∉ met++l.take i∧(0<i→l.getD (i - 1) 0<l.getD i 0)
instance (ow:Int→Option Int) (l met:List Int) (k:Nat):Decidable (keysOk ow l met k):=by unfold keysOk;infer_instance
theorem keysOk_succ {ow:Int→Option Int} {l met:List Int} {k:Nat}:keysOk ow l met (k+1)↔keysOk ow l met k∧((ow (l.getD k 0)).isSome=true∧l.getD k 0 ∉ met++l.take k∧(0<k→l.getD (k - 1) 0<l.getD k 0)):=by
 unfold keysOk;constructor
 ·exact fun h=>⟨fun i hi=>h i (by omega),h k (by omega)⟩
 rintro ⟨h1,h2⟩ i hi;by_cases e:i=k
 ·rw[e];exact h2
 exact h1 i (by omega)
def grpStep (a b:Nat) (grp:List Nat):List Nat:=grp.map fun x=>if x=b then a else x
def grpAt (ow:Int→Option Int) (grp:List Nat) (key:Int):Nat:=grp.getD ((ow key).getD 0).toNat 0
def joinRun (ow:Int→Option Int) (l:List Int) (grp:List Nat):Nat→Option (List Nat)
 | 0=>some grp
 | k+1=>(joinRun ow l grp k).bind fun q=>if k=0 then some q else if grpAt ow q (l.getD 0 0)=grpAt ow q (l.getD k 0) then none else some (grpStep (grpAt ow q (l.getD 0 0)) (grpAt ow q (l.getD k 0)) q)
structure Alike (n:Nat) (s:St) (grp:List Nat):Prop where
 ok:s.Ok
 all:s.all=upTo n
 len:grp.length=n
 same:∀ i j,i<n→j<n→(grp.getD i 0=grp.getD j 0↔s.hd i=s.hd j)
theorem idx_upTo {n i:Nat} (hi:i<n):(upTo n).idxOf (i:Int)=i:=by
 have hn:(upTo n).Nodup:=by unfold upTo;exact List.Pairwise.map _ (fun a b hab=>by omega) (List.nodup_range (n:=n))
 have hl:(upTo n).length=n:=by simp[upTo]
 have e:(upTo n).getD i 0=(i:Int):=by simp[upTo,List.getD,hi]
 have:=idxOf_at hn (i:=i) (by rw[hl];exact hi);rwa[e] at this
theorem Alike.start (n:Nat):Alike n (St.new (upTo n)) (List.range n):=by
 have h:=(PlanOk.start (fun _=>none) n);refine⟨h.ok,h.all,by simp,fun i j hi hj=>?_⟩;rw[St.new_upTo];rfl
theorem Alike.join {n:Nat} {s:St} {grp:List Nat} (h:Alike n s grp) {a b:Int} (ha:0≤a∧a<n) (hb:0≤b∧b<n) :
  (s.joins a b=true↔grp.getD a.toNat 0≠grp.getD b.toNat 0)∧Alike n (s.join a b) (grpStep (grp.getD a.toNat 0) (grp.getD b.toNat 0) grp):=by
 obtain⟨p,rfl⟩:∃ p:Nat,a=p:=⟨a.toNat,by omega⟩;obtain⟨q,rfl⟩:∃ q:Nat,b=q:=⟨b.toNat,by omega⟩;have hp:p<n:=by omega
 have hq:q<n:=by omega
 have ma:((p:Nat):Int)∈s.all:=by rw[h.all,mem_upTo];omega
 have mb:((q:Nat):Int)∈s.all:=by rw[h.all,mem_upTo];omega
 obtain⟨e1,e2⟩:=St.join_in ma mb;have i1:s.all.idxOf (p:Int)=p:=by rw[h.all];exact idx_upTo hp
 have i2:s.all.idxOf (q:Int)=q:=by rw[h.all];exact idx_upTo hq
 rw[i1,i2] at e1 e2;have hgl:s.grp.length=n:=by rw[←h.ok.len,h.all];simp[upTo]
 rw[Int.toNat_natCast,Int.toNat_natCast];refine⟨by rw[e2,bne_iff_ne,ne_eq,ne_eq,h.same p q hp hq],?_⟩;refine⟨h.ok.join _ _,by rw[e1];exact h.all,by unfold grpStep;rw[List.length_map];exact h.len,fun i j hi hj=>?_⟩;have g1:∀ x,x<n→(grpStep (grp.getD p 0) (grp.getD q 0) grp).getD x 0=if grp.getD x 0=grp.getD q 0 then grp.getD p 0 else grp.getD x 0:=fun x hx=>by
  unfold grpStep;rw[getD_map _ _ _ (by rw[h.len];exact hx)]
 have g2:∀ x,x<n→(s.join p q).hd x=if s.hd x=max (s.hd p) (s.hd q) then min (s.hd p) (s.hd q) else s.hd x:=fun x hx=>by
  rw[e1];unfold St.hd relabel;rw[getD_map _ _ _ (by rw[hgl];exact hx)]
 rw[g1 i hi,g1 j hj,g2 i hi,g2 j hj];have s1:=h.same i q hi hq;have s2:=h.same j q hj hq;have s3:=h.same i p hi hp;have s4:=h.same j p hj hp;have s5:=h.same i j hi hj;have s6:=h.same p q hp hq;generalize grp.getD i 0=x1 at *;generalize grp.getD j 0=x2 at *;generalize grp.getD p 0=x3 at *;generalize grp.getD q 0=x4 at *;generalize s.hd i=y1 at *;generalize s.hd j=y2 at *;generalize s.hd p=y3 at *;generalize s.hd q=y4 at *;clear e1 e2 g1 g2 i1 i2 ma mb;rcases Nat.le_total y3 y4 with q1 | q1
 ·rw[Nat.max_eq_right q1,Nat.min_eq_left q1]
  split <;> split <;> split <;> split <;> omega
 rw[Nat.max_eq_left q1,Nat.min_eq_right q1];split <;> split <;> split <;> split <;> omega
theorem list_alike {ow:Int→Option Int} {n:Nat} {l:List Int} {c:St × List Int} {grp:List Nat} (hb:∀ y a,ow y=some a→0≤a∧a<n) (hA:Alike n c.1 grp):∀ k,k≤l.length →
  (∀ d,listRun ow l c k=some d→keysOk ow l c.2 k∧d.2=c.2++l.take k∧∃ q,joinRun ow l grp k=some q∧Alike n d.1 q)∧(listRun ow l c k=none→¬ keysOk ow l c.2 k∨joinRun ow l grp k=none)
 | 0,_=>⟨fun d h=>by cases h;exact⟨fun i hi=>by omega,by simp,grp,rfl,hA⟩,fun h=>by cases h⟩
 | k+1,hk=>by
  obtain⟨i1,i2⟩:=list_alike (l:=l) hb hA k (by omega);have e1:listRun ow l c (k+1)=(listRun ow l c k).bind (keyStep ow l k):=rfl;cases hm:listRun ow l c k with
  | none =>
   rw[hm] at e1;refine⟨fun d h=>(by rw[e1] at h;cases h),fun _=>?_⟩;rcases i2 hm with h | h
   ·exact Or.inl fun q=>h (keysOk_succ.1 q).1
   refine Or.inr ?_;show (joinRun ow l grp k).bind _=none;rw[h];rfl
  | some m =>
   rw[hm] at e1;have e1:listRun ow l c (k+1)=keyStep ow l k m:=e1;obtain⟨h1,h2,q,h3,h4⟩:=i1 m hm;have ej:joinRun ow l grp (k+1)=if k=0 then some q else if grpAt ow q (l.getD 0 0)=grpAt ow q (l.getD k 0) then none else some (grpStep (grpAt ow q (l.getD 0 0)) (grpAt ow q (l.getD k 0)) q):=by
    show (joinRun ow l grp k).bind _=_;rw[h3];rfl
   have hfirst:0<k→∃ b,ow (l.getD 0 0)=some b:=fun h0=>Option.isSome_iff_exists.1 (h1 0 h0).1;have htk:l.take (k+1)=l.take k++[l.getD k 0]:=take_snoc (by omega);constructor
   ·intro d hd
    rw[e1] at hd;obtain⟨a,ha,g1,g2,g3,g4⟩:=keyStep_some hd;refine⟨keysOk_succ.2 ⟨h1,by rw[ha];rfl,by rw[←h2];exact g1,g2⟩,by rw[g3,h2,htk,List.append_assoc],?_⟩;rcases g4 with ⟨rfl,e⟩ | ⟨h0,hj,e⟩
    ·exact⟨q,by rw[ej,if_pos rfl],by rw[e];exact h4⟩
    obtain⟨b,hob⟩:=hfirst h0;rw[hob] at hj e;obtain⟨w1,w2⟩:=h4.join (hb _ _ hob) (hb _ _ ha);have hne:=w1.1 hj;have ea:grpAt ow q (l.getD 0 0)=q.getD b.toNat 0:=by unfold grpAt;rw[hob];rfl
    have eb:grpAt ow q (l.getD k 0)=q.getD a.toNat 0:=by unfold grpAt;rw[ha];rfl
    refine⟨_,by rw[ej,if_neg (by omega),ea,eb,if_neg hne],?_⟩;rw[e];exact w2
   intro hd;rw[e1] at hd;by_cases hok:keysOk ow l c.2 (k+1)
   ·right
    obtain⟨-,o1,o2,o3⟩:=keysOk_succ.1 hok;obtain⟨a,ha⟩:=Option.isSome_iff_exists.1 o1;rw[←h2] at o2;by_cases h0:k=0
    ·subst h0
     rw[keyStep_first ha o2] at hd;cases hd
    obtain⟨b,hob⟩:=hfirst (by omega);obtain⟨w1,w2⟩:=h4.join (hb _ _ hob) (hb _ _ ha);have ea:grpAt ow q (l.getD 0 0)=q.getD b.toNat 0:=by unfold grpAt;rw[hob];rfl
    have eb:grpAt ow q (l.getD k 0)=q.getD a.toNat 0:=by unfold grpAt;rw[ha];rfl
    rw[ej,if_neg h0,ea,eb];by_cases hj:m.1.joins b a=true
    ·rw[keyStep_join (by omega) ha o2 (o3 (by omega)) (by rw[hob];rfl) hj] at hd
     cases hd
    have:¬ q.getD b.toNat 0≠q.getD a.toNat 0:=fun x=>hj (w1.2 x);rw[if_pos (by omega)]
   exact Or.inl hok
def refRun (ow:Int→Option Int) (same:List (List Int)) (st:List Nat × List Int):Nat→Option (List Nat × List Int)
 | 0=>some st
 | i+1=>(refRun ow same st i).bind fun c=>if listBad same i then none else if keysOk ow (same.getD i []) c.2 (same.getD i []).length then (joinRun ow (same.getD i []) c.1 (same.getD i []).length).map fun q=>(q,c.2++same.getD i []) else none
theorem run_alike {ow:Int→Option Int} {n:Nat} {same:List (List Int)} (hb:∀ y a,ow y=some a→0≤a∧a<n):∀ i,
  (∀ d,sameRun ow same (St.new (upTo n),[]) i=some d→∃ q,refRun ow same (List.range n,[]) i=some (q,d.2)∧Alike n d.1 q)∧(sameRun ow same (St.new (upTo n),[]) i=none→refRun ow same (List.range n,[]) i=none)
 | 0=>⟨fun d h=>by cases h;exact⟨_,rfl,Alike.start n⟩,fun h=>by cases h⟩
 | i+1=>by
  obtain⟨i1,i2⟩:=run_alike (same:=same) hb i;have e1:sameRun ow same (St.new (upTo n),[]) (i+1)=(sameRun ow same (St.new (upTo n),[]) i).bind fun c=>if listBad same i then none else listRun ow (same.getD i []) c (same.getD i []).length:=rfl
  have e2:refRun ow same (List.range n,[]) (i+1)=(refRun ow same (List.range n,[]) i).bind fun c=>if listBad same i then none else if keysOk ow (same.getD i []) c.2 (same.getD i []).length then (joinRun ow (same.getD i []) c.1 (same.getD i []).length).map fun q=>(q,c.2++same.getD i []) else none:=rfl
  cases hm:sameRun ow same (St.new (upTo n),[]) i with
  | none =>
   rw[hm] at e1;rw[i2 hm] at e2;exact⟨fun d h=>(by rw[e1] at h;cases h),fun _=>e2⟩
  | some m =>
   obtain⟨q,hq,hA⟩:=i1 m hm;rw[hm] at e1;rw[hq] at e2;have e1:sameRun ow same (St.new (upTo n),[]) (i+1)=if listBad same i then none else listRun ow (same.getD i []) m (same.getD i []).length:=e1
   have e2:refRun ow same (List.range n,[]) (i+1)=if listBad same i then none else if keysOk ow (same.getD i []) m.2 (same.getD i []).length then (joinRun ow (same.getD i []) q (same.getD i []).length).map fun x=>(x,m.2++same.getD i []) else none:=e2
   by_cases hbad:listBad same i
   ·rw[if_pos hbad] at e1 e2
    exact⟨fun d h=>(by rw[e1] at h;cases h),fun _=>e2⟩
   rw[if_neg hbad] at e1 e2;obtain⟨l1,l2⟩:=list_alike (l:=same.getD i []) hb hA _ (Nat.le_refl _);constructor
   ·intro d h
    rw[e1] at h;obtain⟨k1,k2,r,k3,k4⟩:=l1 d h;rw[List.take_length] at k2;exact⟨r,by rw[e2,if_pos k1,k3,k2];rfl,k4⟩
   intro h;rw[e1] at h;rw[e2];rcases l2 h with k | k
   ·rw[if_neg k]
   split
   ·rw[k];rfl
   rfl
def apartGrp (grp:List Nat):Prop:=∃ i,i<grp.length∧grp.getD i 0≠grp.getD 0 0
open Classical in
theorem planErr_ref {g:Gr} {p:Pt} {turn same:List (List Int)} (h:flatErr g p turn=0) (hp:PartOk g p) (hW:WalksOk g p turn (walksOf g p turn)) :
  planErr g p turn same=match refRun (ownerOf g p (walksOf g p turn)) same (List.range (roots g p).length,[]) same.length with
   | none=>7
   | some c=>if apartGrp c.1 then 7 else 0:=by
 rw[planErr_run h];have hb:∀ y a,ownerOf g p (walksOf g p turn) y=some a→0≤a∧a<((roots g p).length:Int):=fun y a ha=>ownerOf_lt hp hW ha;obtain⟨r1,r2⟩:=run_alike (same:=same) hb same.length;cases hm:sameRun (ownerOf g p (walksOf g p turn)) same (St.new (upTo (roots g p).length),[]) same.length with
 | none=>rw[r2 hm]
 | some d =>
  obtain⟨q,hq,hA⟩:=r1 d hm;rw[hq];dsimp only;have hgl:d.1.grp.length=(roots g p).length:=by rw[←hA.ok.len,hA.all];simp[upTo]
  have:1<d.1.count↔apartGrp q:=by
   rw[←Nat.not_le,heads_one hA.ok];constructor
   ·intro hx
    refine Classical.byContradiction fun hno=>hx fun i j hi hj=>?_;rw[hgl] at hi hj;have e:∀ x,x<(roots g p).length→q.getD x 0=q.getD 0 0:=fun x hx=>Classical.byContradiction fun y=>hno ⟨x,by rw[hA.len];exact hx,y⟩;exact (hA.same i j hi hj).1 ((e i hi).trans (e j hj).symm)
   rintro ⟨i,hi,hne⟩ hall;rw[hA.len] at hi;exact hne ((hA.same i 0 hi (by omega)).2 (hall i 0 (by omega) (by omega)))
  by_cases hx:1<d.1.count
  ·rw[if_pos hx,if_pos (this.1 hx)]
  rw[if_neg hx,if_neg fun y=>hx (this.2 y)]
end Plain
end Go.Proofs.YtkacjmoamgjfpaaGreat
namespace Go.Proofs.YtkacjmoamgjfpaaGreat
open Go.RowKit Go.Maps
theorem row_lit1 {w:World} {B:Nat} (hB:B≤w.heap.size) {k:Int} (hk:I64 k):RowAt (w.alloc (.cells #[.int .i64 k] 3)) B (.slice (some ⟨w.heap.size,0,none⟩) 1 1) [k] :=
 ⟨World.ownsRow_lit w #[.int .i64 k] 1 hB (by decide) rfl,by simpa using hk,by simp⟩
theorem wl_push {ops:Array Oper} {rest:List Oper} {o:Oper} {a:Act} {Q:Exit→Act→World→Prop} {w w0:World} (hg:o.guard=none) (s x:Operand) (ho:o.op=.call { callee:=.builtin .append,args:=#[s,x],argTypes:=#[27,27] })
  {B:Nat} {v:Value} {l:List Int} {k:Int} (hs:a.eval s=v) (hx:a.eval x=.slice (some ⟨w0.heap.size,0,none⟩) 1 1) (h:RowAt w0 B v l) (hk:I64 k) (hB:B≤w0.heap.size) (hn:l.length<4294967290) (hw:w=w0.alloc (.cells #[.int .i64 k] 3))
  (hK:∀ v' w',RowAt w' B v' (l++[k])→Chg (foot v) w0 w'→(∀ b∈foot v',b∈foot v∨w0.heap.size≤b)→wpList Tryz.prog ops Q rest (a.put o.dst v') w'):wpList Tryz.prog ops Q (o :: rest) a w:=by
 subst hw;have hc:=(Chg.refl [] w0).alloc (.cells #[.int .i64 k] 3);refine wl_cat hg s x ho hs hx (h.chg hc (by simp)) (row_lit1 (B:=w0.heap.size) (Nat.le_refl _) hk) (Nat.le_trans hB hc.size) (by simp;omega) fun v' w' r1 r2 r3=>hK v' w' r1 ((hc.mono (by simp)).trans r2 fun j hj=>Or.inl hj) fun b hb=>(r3 b hb).imp id fun q=>Nat.le_trans hc.size q
theorem IntsAt.cellAt {w:World} {ao:Option Addr} {n c:Nat} {l:List Int} (h:IntsAt w (.slice ao n c) l) {i:Nat} (hi:i<l.length):∃ b off,ao=some ⟨b,off,none⟩∧w.cell? ⟨b,off+i,none⟩=some (.int .i64 (l.getD i 0)):=by
 obtain⟨ao',c',e',-,-,h⟩:=h;simp only[Value.slice.injEq] at e';obtain⟨rfl,-,rfl⟩:=e';obtain⟨b,off,rfl,h2⟩:=h (by intro q;rw[q] at hi;simp at hi);exact⟨b,off,rfl,h2 i hi⟩
theorem RowsAt.row {w:World} {tno:Option Addr} {n tc:Nat} {ll:List (List Int)} (h:RowsAt w (.slice tno n tc) ll) {k:Nat} (hk:k<ll.length):∃ b off uo uc,tno=some ⟨b,off,none⟩∧w.cell? ⟨b,off+k,none⟩=some (.slice uo (ll.getD k []).length uc)∧IntsAt w (.slice uo (ll.getD k []).length uc) (ll.getD k []):=by
 obtain⟨ao,cap,e,-,h2⟩:=h;simp only[Value.slice.injEq] at e;obtain⟨rfl,rfl,rfl⟩:=e;obtain⟨b,off,u,rfl,h3,-,h5⟩:=h2 k hk;have h6:=h5;obtain⟨uo,uc,rfl,-⟩:=h5;exact⟨b,off,uo,uc,rfl,h3,h6⟩
theorem rowNil' (w:World) (B:Nat):RowAt w B (.slice none 0 0) []:=⟨World.ownsRow_nil _ _ _ _,by simp,by simp⟩
set_option maxRecDepth 100000 in
set_option maxHeartbeats 4000000 in
theorem refDarts_any (vg vp:Value) (g:Plain.Gr) (p:Plain.Pt) (v:Int) (w:World) (hE:p.e.length≤1000000) (hr:p.err g=0) (hg:GrAt w vg g) (hp:PtAt w vp p) :
  Calls Tryz.prog 123 #[vg,vp,.int .i64 v] w fun e w'=>∃ ov,e=.returned ov∧RowAt w' w.heap.size ov (Plain.dartsAt g p v)∧Chg [] w w':=by
 have HRE:=lh (Plain.Pt.err_ok hr).2.2.1;have HGE:=lh (Plain.Gr.err_ok (Plain.Pt.err_ok hr).1);have hdl:=Plain.darts_length p;have HDA:=lh (Plain.dartsTo_all g p v);rw[hdl] at HDA;have HDL:=lh hdl;have HD0:=lh (Plain.dartsTo_zero g p v);clear hdl;have HG:=lh hg;have HP:=lh hp;obtain⟨eo,cap,rfl,hn,hm,hsm,hcell⟩:=hg;obtain⟨v1,v2,rfl,hv,he⟩:=hp;obtain⟨ao,ac,rfl,has,ham,hacell⟩:=hv;obtain⟨bo,bc,rfl,hbs,hbm,hbcell⟩:=he;have HAC:=lh hacell;have HBC:=lh hbcell;have HAS:=lh has;have HBS:=lh hbs;obtain⟨-,-,hc1⟩:=box_two w #[.int .i64 g.n,.slice eo g.e.length cap] #[.slice ao p.v.length ac,.slice bo p.e.length bc] 24 29;have HC1:=lh hc1;have HBXS:=lh (fun w2 h=>two_boxes w (g:=g) (p:=p) (eo:=eo) (ao:=ao) (bo:=bo) (cap:=cap) (ac:=ac) (bc:=bc) (w2:=w2) h);clear hcell hacell hbcell hsm has hbs hn hc1;obtain⟨x0,x1,y0,y1,hsz⟩:=HBXS.out _ (Chg.refl _ _);clear hr
 go_enter Tryz.func123,Tryz.ntmps123
 go_wp2;obtain⟨w1,hw1⟩:∃ w1,((w.alloc (.cells #[.int .i64 g.n,.slice eo g.e.length cap] 24)).alloc (.cells #[.slice ao p.v.length ac,.slice bo p.e.length bc] 29))=w1:=⟨_,rfl⟩;rw[hw1] at HC1 HBXS ⊢;clear hw1 x0 x1 y0 y1 hsz;have HB1:=lh HC1.out.size
 go_loopw [7,8] (fun ov c wr=>∃ k:Nat,k≤p.e.length∧c=.int .i64 k∧RowAt wr w1.heap.size ov (Plain.dartsTo g p v (2*k))∧Chg [] w1 wr) (fun _ c _=>p.e.length - (intOf c).toNat)
 case atStart=>exact⟨0,Nat.zero_le _,rfl,by rw[show 2*0=0 from rfl,HD0.out];exact rowNil' _ _,Chg.refl _ _⟩
 case round =>
  obtain⟨k,hk,rfl,hrow,hc⟩:=hrel;have HROW:=lh hrow;have HC:=lh hc;obtain⟨oo,oc,rfl⟩:=hrow.shape;obtain⟨x0,x1,y0,y1,hsz⟩:=HBXS.out wr hc;by_cases hlt:k<p.e.length
  ·obtain⟨bb,boff,rfl,hbc⟩:=HBC.out (by intro e;rw[e] at hlt;simp at hlt)
   have HCK:=lh (HC1.out.c (hbc k hlt));have hre:=Plain.rises_at HRE.out hlt;obtain⟨ei,hei⟩:∃ ei:Nat,p.e.getD k 0=(ei:Int):=⟨(p.e.getD k 0).toNat,by omega⟩;have HNX:=lh (fun s (hs:s<2)=>(show Plain.dartsTo g p v (2*k+s+1)=if g.tail ((2*ei+s:Nat):Int)=v then Plain.dartsTo g p v (2*k+s)++[((2*ei+s:Nat):Int)] else Plain.dartsTo g p v (2*k+s) by
    rw[Plain.dartsTo_next (by rw[HDL.out];omega),Plain.darts_getD hlt s hs,hei];rw[show (2*(ei:Int)+(s:Int))=((2*ei+s:Nat):Int) by omega]))
   rw[hei] at HCK hre;have hei2:ei<g.e.length:=by omega
   have hglen:g.e.length<4294967296:=by have:=HGE.out.2.2.1;have:=HGE.out.1;omega
   have hgl2:g.e.length≤1024:=by have:=HGE.out.2.2.1;have:=HGE.out.1;omega
   have w2e:IntKind.i64.wrap (2*(ei:Int))=2*(ei:Int):=IntWalk.i64_in _ (by omega);clear hbc hre hrow hc;go_wp2
   go_loopw [7,9] (fun ov c wi=>∃ s:Nat,s≤2∧c=.int .i64 s∧RowAt wi w1.heap.size ov (Plain.dartsTo g p v (2*k+s))∧Chg [] w1 wi) (fun _ c _=>2 - (intOf c).toNat)
   case atStart=>exact⟨0,by omega,rfl,HROW.out,HC.out⟩
   case round =>
    rename World=>wi;obtain⟨s,hs,rfl,hrow,hc⟩:=hrel;have HROW:=lh hrow;have HC:=lh hc;obtain⟨oo,oc,rfl⟩:=hrow.shape;obtain⟨x0,x1,y0,y1,hsz⟩:=HBXS.out wi hc;have ck:=hc.c HCK.out;clear hrow hc;by_cases hs2:s<2
    ·have HN:=lh (HNX.out s hs2)
     have wad:IntKind.i64.wrap (2*(ei:Int)+(s:Int))=((2*ei+s:Nat):Int):=by rw[IntWalk.i64_in _ (by omega)];omega
     have hdlen:=Plain.dartsTo_len g p v (2*k+s);have HID:=lh (show I64 ((2*ei+s:Nat):Int) from I64.mk (by omega) (by omega));obtain⟨d,hd⟩:∃ d,2*ei+s=d:=⟨_,rfl⟩;rw[hd] at HN wad HID;have hd2:d / 2<g.e.length:=by omega
     clear hd;go_wp2;have hS0:Chg [] wi wi.drew:=(Chg.refl [] wi).drew;refine wp_region_way (Chg [] wi) [0,1,2,3,4,5,6,7,8,10,11] (Way.line [0,1,2,3,4,5,6,7,8,10,9,11] .done) (by kernel_rfl) (by kernel_rfl) ?_;simp only[Way.line]
     repeat
      first
       | (refine along_off rfl (by rfl) (by rfl) (fun _ _ _ h=>h) hS0 ?_;simp only[Act.put,Z1,Z2,Z3,Z4,Z5,Z6])
       | (refine along_read (v:=?_) rfl (by rfl) (by rfl) (fun _ _ _ h=>h) hS0 (fun w' hS'=>?_) ?_;rotate_left;(focus (have rd0:=hS'.c x0;have rd1:=hS'.c x1;have rd2:=hS'.c y0;have rd3:=hS'.c y1;have rd4:=hS'.c ck;clear hS';go_simp;try with_reducible rfl));simp only[Act.put,Z1,Z2,Z3,Z4,Z5,Z6])
       | (refine along_skip rfl (by rfl) (by rfl) hS0 ?_;simp only[Act.put,Z1,Z2,Z3,Z4,Z5,Z6])
     refine along_op rfl (by rfl) (by rfl) (fun K hK=>?_);go_simp;refine (tail_any _ g d _ hd2 hglen (HG.out.fresh (HC1.out.t (HC.out.t hS0)))).mono ?_;rintro e w3 ⟨rfl,hcx⟩;have hS1:=hS0.t hcx;clear hS0 hcx;have hS0:=hS1;clear hS1;refine hK.out _ _ (fun _=>hS0) ?_;clear hK K
     try simp only[Act.put,Z1,Z2,Z3,Z4,Z5,Z6]
     repeat
      first
       | (refine along_off rfl (by rfl) (by rfl) (fun _ _ _ h=>h) hS0 ?_;simp only[Act.put,Z1,Z2,Z3,Z4,Z5,Z6])
       | (refine along_read (v:=?_) rfl (by rfl) (by rfl) (fun _ _ _ h=>h) hS0 (fun w' hS'=>?_) ?_;rotate_left;(focus (have rd0:=hS'.c x0;have rd1:=hS'.c x1;have rd2:=hS'.c y0;have rd3:=hS'.c y1;have rd4:=hS'.c ck;clear hS';go_simp;try with_reducible rfl));simp only[Act.put,Z1,Z2,Z3,Z4,Z5,Z6])
       | (refine along_skip rfl (by rfl) (by rfl) hS0 ?_;simp only[Act.put,Z1,Z2,Z3,Z4,Z5,Z6])
     refine along_done ?_;have HC3:=lh (HC.out.t hS0);have HROW3:=lh (HROW.out.chg hS0 (by simp));clear x0 x1 y0 y1 hsz ck hS0;obtain⟨x0,x1,y0,y1,hsz⟩:=HBXS.out w3 HC3.out;have ck:=HC3.out.c HCK.out;by_cases ht:g.tail (d:Int)=v
     ·have HE:=lh (HN.out.trans (if_pos ht))
      have b1:(g.tail (d:Int)==v)=true:=by rw[beq_iff_eq];exact ht
      have HB3:=lh (show w1.heap.size≤w3.heap.size from HC3.out.size);clear ht
      go_wp2_with (at_builtin;refine wl_push rfl _ _ rfl (B:=w1.heap.size) (v:=.slice oo _ oc) rfl rfl HROW3.out HID.out HB3.out (by omega) rfl ?_;intro v6 w6 r6 c6 f6;have R6:=lh r6;have C6:=lh c6;clear r6 c6 f6)
      go_roundw
      case rel=>exact⟨s+1,by omega,by go_num,by rw[←Nat.add_assoc,HE.out];exact R6.out,HC3.out.trans C6.out (fun j hj=>Or.inr (by rw[HROW3.out.foot] at hj;exact (HROW3.out.low j hj).1))⟩
      case measure=>simp[intOf];omega
     have HE:=lh (HN.out.trans (if_neg ht));have b1:(g.tail (d:Int)==v)=false:=by rw[beq_eq_false_iff_ne];exact ht
     clear ht;go_wp2
     go_roundw
     case rel=>exact⟨s+1,by omega,by go_num,by rw[←Nat.add_assoc,HE.out];exact HROW3.out,HC3.out⟩
     case measure=>simp[intOf];omega
    have e:s=2:=by omega
    subst e;clear ck;go_wp2
    go_roundw
    case rel=>exact⟨k+1,by omega,by go_num,HROW.out,HC.out⟩
    case measure=>simp[intOf];omega
  have e:k=p.e.length:=by omega
  subst e;have HR:=lh (HROW.out.base HB1.out);rw[HDA.out] at HR ⊢;have HCF:=lh (HC1.out.t HC.out);clear hrow hc x0 x1;obtain⟨rn,hrn⟩:∃ rn,(Plain.dartsAt g p v).length=rn:=⟨_,rfl⟩;rw[hrn] at HR ⊢;clear hrn;go_wp2;go_ret;exact⟨_,rfl,HR.out,HCF.out⟩
end Go.Proofs.YtkacjmoamgjfpaaGreat
