/- package sets: contracts of dO and of the laws' own example. Conditions: a list of fewer than 2^32 ints. -/
import Derived.Test.YtbkjljffnkdcjaaGreatD9SetsC
import Derived.Test.YtbkjljffnkdcjaaGreatD9Row
open List renaming take_succ_eq_append_getElem→Qa,getD→Qb,getElem_of_mem→Qd,mem_append→Qe,take_append_drop→Qg,take_length→Qh,pairwise_iff_getElem→Qj,append_assoc→Qk,nodup_append→Ql,length_cons→Qm,length_take→Qn,flatten_append→Qp,mem_cons→Qq,length_append→Qr,mem_flatten→Qt,length_map→Qw,nodup_cons→Qx
open Go.Value renaming slice→Qc,ownBlock→Qf,map→Qz
open Classical renaming byContradiction→Qi
open Nat renaming zero_le→Qo,le_refl→Qu,le_antisymm→Qv,not_lt→Qy
open Go.World renaming ownsRow_nil→Qs
open Or renaming inl→QA,inr→QB
namespace Go.Proofs.YtbkjljffnkdcjaaGreat
open Go.RowKit Go.Maps
theorem cF.empty (w:World):cF ((w.alloc (.map #[] 0)).alloc (.cells #[.map (some w.heap.size),.slice none 0 0,.slice none 0 0,.int .i64 0] 174)) (w.heap.size+1) [w.heap.size+1,w.heap.size] ⟨[],[]⟩:=by
 refine⟨w.heap.size,.slice none 0 0,.slice none 0 0,[],⟨?_,?_,Qs _ _ _ _,Qs _ _ _ _,QA rfl,⟨rfl,by simp⟩,rfl,by simp,by simp⟩,rfl⟩
 ·have:=heap_alloc_new (w.alloc (.map #[] 0)) (.cells #[.map (some w.heap.size),.slice none 0 0,.slice none 0 0,.int .i64 0] 174)
  have e:(w.alloc (.map #[] 0)).heap.size=w.heap.size+1:=by simp
  rw[e] at this;exact this
 have:(pos ([]:List Int))=fun _=>none:=by funext x;simp[pos]
 simp only[List.length_nil];rw[this];exact (bN.made w).alloc _
def St.new (l:List Int):St:=l.foldl St.put ⟨[],[]⟩
theorem St.PL {l:List Int} {k:Nat} (h:k<l.length):St.new (l.take (k+1))=(St.new (l.take k)).put (l.getD k 0):=by
 unfold St.new;rw[Qa h,List.foldl_append];simp[Qb,h]
theorem St.Je (l:List Int):(St.new l).all.length<=l.length:=by
 have:∀ (l:List Int) (s:St),(l.foldl St.put s).all.length<=s.all.length+l.length:=by
  intro l
  induction l with
  | nil=>intro s;simp
  | cons x r ih =>
   intro s;have:=ih (s.put x);have:=(s.Bl x).2;simp only[List.foldl_cons,Qm];omega
 simpa[St.new] using this l ⟨[],[]⟩
theorem SK (v:Value) (l:List Int) (w:World) (hn:l.length<4294967296) (h:aJ w v l) :
  Calls Tryz.prog 92 #[v] w fun e w'=>∃ pb own,e=.returned (.pointer (some ⟨pb,0,none⟩))/\cF w' pb own (St.new l)/\ai [] w w'/\∀ j∈own,w.heap.size<=j:=by
 obtain⟨ao,cap,rfl,dS,-,aO⟩:=h;have nq:=@run_makeMap Tryz.prog;have HE:=lh (cF.empty w)
 go_enter Tryz.func92,Tryz.ntmps92
 go_wp2
 go_loopw [11] (fun c wr=>∃ k:Nat,k<=l.length/\c=.int .i64 k/\∃ own,cF wr (w.heap.size+1) own (St.new (l.take k))/\ai [] w wr/\∀ j∈own,w.heap.size<=j) (fun c _=>l.length - (intOf c).toNat)
 case atStart=>exact⟨0,Qo _,rfl,_,HE.out,((ai.refl _ _).alloc _).alloc _,by simp⟩
 case round =>
  obtain⟨k,hk,rfl,own,T8,dI,bL⟩:=hrel;by_cases aU:k<l.length
  ·obtain⟨b,off,rfl,hc⟩:=aO (by intro e;rw[e] at aU;simp at aU)
   have ck:=dI.c (hc k aU);have hx:=dS (l.getD k 0) (by simp[Qb,aU]);have hl:=St.Je (l.take k);have zH:(l.take k).length<=k:=List.length_take_le _ _;have HX:=lh (St.PL aU);have HS:=lh dS;have HC:=lh hc;clear aO hc dS;generalize l.getD k 0=x at *
   go_wp2_with fail
   refine (T9 _ own _ x _ hx (by omega) T8).mono ?_;rintro e w2 ⟨rfl,BF,Es,bG,FC⟩;have X3:=lh Es;have rY:=dI.trans bG (fun j hj=>QB (bL j hj));have di:=dI.size;have Kb:∀ j∈BF,w.heap.size<=j:=fun j hj=>by rcases FC j hj with q | q;exact bL j q;omega
   clear T8 dI bL Es bG FC ck;go_wp2
   go_roundw
   case rel=>exact⟨k+1,by omega,by go_num,BF,by rw[HX.out];exact X3.out,rY,Kb⟩
   case measure=>simp[intOf];omega
  have e:k=l.length:=by omega
  subst e;have HO:=lh T8;clear T8;go_wp2;go_ret;exact⟨_,own,rfl,by simpa using HO.out,dI,bL⟩
def iN (w:World) (b n:Nat) (f:Int->Option Int):Prop :=
 ∃ D:DataW Unit,w.ownsMap Tryz.prog 3 (plainElem Tryz.prog 3) b n D/\Maps.size D=n /\
  ∀ x,bn x->Maps.has D (.int .i64 x)=(f x).isSome/\D.atKey (.int .i64 x) (.lit (.int .i64 0))=.lit (.int .i64 ((f x).getD 0))
theorem iN.E9 {w:World} {b n:Nat} {f:Int->Option Int} (h:iN w b n f):bN w b n f:=by obtain⟨D,h1,_,h2⟩:=h;exact⟨D,h1,h2⟩
theorem iN.made (w:World):iN (w.alloc (.map #[] 0)) w.heap.size 0 (fun _=>none) :=
 ⟨.map [],World.ownsMap_made _ _ _ _,rfl,fun _ _=>⟨rfl,rfl⟩⟩
theorem iN.aM {w w':World} {own:List Nat} {b n:Nat} {f:Int->Option Int} (h:iN w b n f) (hc:ai own w w') (hb:b ∉ own):iN w' b n f:=by
 obtain⟨D,⟨es,clock,he,r⟩,g⟩:=h;exact⟨D,⟨es,clock,hc.heap he hb,r⟩,g⟩
theorem iN.lt {w:World} {b n:Nat} {f:Int->Option Int} (h:iN w b n f):b<w.heap.size:=h.E9.lt
theorem fZ {t k e:TypeId} (ht:Tryz.prog.underlying t=some (.map k e)) (n:Int) (w:World):(Instr.makeMap t (some (.int .i64 n))).run Tryz.prog w=.ok (.map (some w.heap.size)) (w.alloc (.map #[] 0)):=by
 simp[Instr.makeMap,run_underlying ht,asInt,asIntOf,Result.andThen]
theorem notFound {P:Program} {k:TypeId} (K:Keyed P k) {R:Value->Option (DataW Unit × List MemPlace)} {es:Array MapEntry} {clock:Nat} (F:WideElems.Fit P k R es clock) {key:Value} {kl:Lit} (kK:keyOf P k key=some kl)
  (hh:Maps.has (.map ((es.toList.map (WideElems.rg P k R)).foldr DataW.insert [])) kl=false) (w:World):(Instr.findKey k key es.toList).run P w=.ok none w/\∀ e∈es.toList,e.key≠key:=by
 rcases K.find w kK es.toList F.keys with h | ⟨j,e0,h1,h2,h3⟩
 ·exact h
 exfalso;have hf:=filter_one K F kK h2 h3;have hj:j<es.toList.length:=(List.getElem?_eq_some_iff.1 h2).1;rw[has_eq] at hh;have hp:=Go.WideShapes.sorted_perm (es.toList.map (WideElems.rg P k R));have h0:∀ p∈es.toList.map (WideElems.rg P k R),p.1.sameKey kl=false:=fun p hp'=>by
  have:=List.any_eq_false.1 hh p (hp.mem_iff.2 hp');simpa using this
 have e1:(es.toList.map (WideElems.rg P k R)).filter (ChangeMaps.notKey kl)=es.toList.map (WideElems.rg P k R):=List.filter_eq_self.2 fun p hp'=>by
  unfold ChangeMaps.notKey;rw[h0 p hp'];rfl
 rw[e1] at hf;have:=congrArg List.length hf;rw[List.length_eraseIdx,if_pos (by simpa using hj)] at this;simp at this hj;omega
section
variable {w : World} {b n : Nat} {f : Int -> Option Int}
theorem iN.put (h:iN w b n f) (hn:n<maxLen) {k v:Int} (hk:bn k) (hv:bn v) (hf:f k=none) :
  ∃ w2,(Instr.mapUpdate 124 (.map (some b)) (.int .i64 k) (.int .i64 v)).run Tryz.prog w=.ok () w2/\iN w2 b (n+1) (fun y=>if y=k then some v else f y)/\ai [b] w w2:=by
 obtain⟨D,ho,hs,hD⟩:=h;have kK:=keyOf_int_mk Tryz.underlying3 hk;obtain⟨w2,h1,h2,h3⟩:=ho.update bM Tryz.underlying124 hn kK (plainElem_int Tryz.underlying3 hv);refine⟨w2,h1,⟨_,h2,?_,fun y hy=>?_⟩,(ai.refl _ _).grown h3 (fun j hj=>by cases hj;exact QA (by simp))⟩
 ·rw[size_put (ho.tidy bM),(hD k hk).1,hf,hs]
  rfl
 by_cases e:y=k
 ·subst e
  have qN:=bM.key kK;rw[has_put_same ho.isMap qN,atKey_put_same ho.isMap qN];simp
 rw[has_put_other (lX e),atKey_put_other (lX e)];simp only[if_neg e];exact hD y hy
theorem iN.entry (h:iN w b n f) (hn:n<maxLen) {k v:Int} (hk:bn k) (hv:bn v) (hf:f k=none) :
  ∃ st w1 w2,(Instr.mapEntry 124 (.map (some b)) (.int .i64 k)).run Tryz.prog w=.ok (.tuple #[.int .i64 0,.int .i64 st]) w1/\ai [b] w w1 /\
   (Instr.entryStore 124 (.map (some b)) (.int .i64 st) (.int .i64 v)).run Tryz.prog w1=.ok () w2/\iN w2 b (n+1) (fun y=>if y=k then some v else f y)/\ai [b] w w2:=by
 obtain⟨w2,h1,h2,h3⟩:=h.put hn hk hv hf;obtain⟨D,⟨es,clock,hb,F,di,rfl⟩,hs,hD⟩:=h;have kK:=keyOf_int_mk Tryz.underlying3 hk;obtain⟨g1,g2⟩:=notFound bM F kK (by rw[(hD k hk).1,hf];rfl) w;have hu:=Tryz.underlying124;simp only[Instr.mapUpdate,Sem.run_bind,run_underlying hu,MapKept.run_getObj_map hb,bM.check w false kK,g1,MapKept.run_setObj_map _ hb,Result.andThen] at h1;have e2:w2=ChangeMaps.setBlock w b (.map (es.push ⟨.int .i64 k,.int .i64 v,clock⟩) (clock+1)):=by
  simp[ChangeMaps.setBlock] at h1 ⊢;exact h1.symm
 have eG:=ChangeMaps.heap_setBlock_same hb (.map (es.push ⟨.int .i64 k,.int .i64 0,clock⟩) (clock+1));refine⟨clock,ChangeMaps.setBlock w b (.map (es.push ⟨.int .i64 k,.int .i64 0,clock⟩) (clock+1)),w2,?_,⟨rfl,rfl,rfl,by simp[ChangeMaps.setBlock],fun i _ hi=>ChangeMaps.heap_setBlock_other hb _ (fun e=>hi (by simp[e]))⟩,?_,h2,h3⟩
 ·simp[Instr.mapEntry,run_underlying hu,MapKept.run_getObj_map hb,bM.check w false kK,g1,MapKept.run_setObj_map _ hb,Result.andThen,ChangeMaps.setBlock,goInt]
 have mR:(es.push ⟨.int .i64 k,.int .i64 0,clock⟩).findIdx? (fun e=>(e.born:Int)==(clock:Int))=some es.size:=by
  rw[Array.findIdx?_eq_some_iff_getElem];refine⟨by simp,by simp,fun j hj=>?_⟩;rw[Array.getElem_push_lt hj];have:=F.stamped.1 es[j] (by simp);simp;omega
 have sI:(es.push ⟨.int .i64 k,.int .i64 0,clock⟩).modify es.size (fun e=>{ e with val:=.int .i64 v })=es.push ⟨.int .i64 k,.int .i64 v,clock⟩:=by
  apply Array.ext
  ·simp
  intro i h1 h2;simp only[Array.getElem_modify,Array.getElem_push];split <;> split <;> simp_all <;> omega
 simp only[Instr.entryStore,Sem.run_bind,MapKept.run_getObj_map eG,Result.andThen,asInt,asIntOf,Sem.run_pure,mR,MapKept.run_setObj_map _ eG,sI,e2];simp[ChangeMaps.setBlock]
theorem iN.len (h:iN w b n f) (ty:TypeId):(Builtin.len_ #[124] ty #[.map (some b)]).run Tryz.prog w=.ok (.int .i64 n) w:=by
 obtain⟨D,ho,hs,-⟩:=h;rw[ho.len Tryz.underlying124 ty,hs]
end
section
variable (w : World) {ops : Array Oper} {rest : List Oper} {o : Oper} {a : Act} {Q : Exit -> Act -> World -> Prop} {K : Act -> World -> Prop}
theorem ML (hg:o.guard=none) (m x u:Operand) (kU:o.op=Op.mapUpdate 124 m x u) {b n:Nat} {f:Int->Option Int} (h:iN w b n f) (hn:n<maxLen) (hm:a.eval m=.map (some b))
  {k v:Int} (hk:bn k) (hv:bn v) (hf:f k=none) (hx:a.eval x=.int .i64 k) (hu:a.eval u=.int .i64 v)
  (hK:∀ w',iN w' b (n+1) (fun y=>if y=k then some v else f y)->ai [b] w w'->wpList Tryz.prog ops Q rest (a.put o.dst undef) w'):wpList Tryz.prog ops Q (o :: rest) a w:=by
 refine wpList_plain hg fun K' uM=>?_;obtain⟨w2,gC,r1,r2⟩:=h.put hn hk hv hf;unfold Oper.wp;simp[execOp,kU,hm,hx,hu,gC,Result.andThen];exact uM _ _ (hK w2 r1 r2)
theorem EW (m x:Operand) (kU:o.op=Op.mapEntry 124 m x) {b:Nat} {k:Int} {w1:World} {v:Value} (gC:(Instr.mapEntry 124 (.map (some b)) (.int .i64 k)).run Tryz.prog w=.ok v w1) (hm:a.eval m=.map (some b)) (hx:a.eval x=.int .i64 k)
  (hK:K (a.put o.dst v) w1):o.wp Tryz.prog a w K Q:=by
 unfold Oper.wp;simp[execOp,kU,hm,hx,gC,Result.andThen];exact hK
theorem AQ (m x u:Operand) (kU:o.op=Op.entryStore 124 m x u) {b:Nat} {st v:Int} {w1:World} (gC:(Instr.entryStore 124 (.map (some b)) (.int .i64 st) (.int .i64 v)).run Tryz.prog w=.ok () w1) (hm:a.eval m=.map (some b)) (hx:a.eval x=.int .i64 st) (hu:a.eval u=.int .i64 v)
  (hK:K (a.put o.dst undef) w1):o.wp Tryz.prog a w K Q:=by
 unfold Oper.wp;simp[execOp,kU,hm,hx,hu,gC,Result.andThen];exact hK
end
structure nW (w:World) (rb:Nat) (T:List (List Int)) (lv pl:Int->Option Int) (ds:List Int) (vt vd:Value) (lb pb n m:Nat):Prop where
 cells:w.heap[rb]?=some (.cells #[vt,.map (some lb),.map (some pb),vd] 193 (0,0))
 aa:eC w vt T
 leaves:bN w lb n lv
 place:bN w pb m pl
 ag:aJ w vd ds
theorem DP (rb:Nat) (T:List (List Int)) (lv pl:Int->Option Int) (ds:List Int) (vt vd:Value) (lb pb n m:Nat) (d step:Int) (v i j:Nat) (w:World) (hd:bn d) (hl:lv d=some (v:Int)) (hp:pl d=some (i:Int)) (hv:v<T.length) (_hT:T.length<4294967296) (hi:i<(T.getD v []).length) (hlen:(T.getD v []).length<4294967296)
  (hs:-1<=step/\step<=1) (hj:Int.tmod ((i:Int)+step+((T.getD v []).length:Int)) ((T.getD v []).length:Int)=(j:Int)) (sH:j<(T.getD v []).length) (h:nW w rb T lv pl ds vt vd lb pb n m) :
  Calls Tryz.prog 181 #[.pointer (some ⟨rb,0,none⟩),.int .i64 d,.int .i64 step] w fun e w'=>e=.returned (.tuple #[.int .i64 ((T.getD v []).getD j 0),.bool true])/\w=w':=by
 obtain⟨T5,tc,rfl,-,zk⟩:=h.aa;obtain⟨tb,Ub,u,rfl,hu,-,hints⟩:=zk v hv;obtain⟨uo,uc,rfl,-,-,huc⟩:=hints;obtain⟨ub,anb,rfl,aO⟩:=huc (by intro e;rw[e] at hi;simp at hi);have cj:=aO j sH;have c0:=(cell_of_row _ _ 0 _ _ _ h.cells).trans (show _=some (Qc (some ⟨tb,Ub,none⟩) T.length tc) from rfl);have c1:=(cell_of_row _ _ 1 _ _ _ h.cells).trans (show _=some (Qz (some lb)) from rfl);have c2:=(cell_of_row _ _ 2 _ _ _ h.cells).trans (show _=some (Qz (some pb)) from rfl);have HL:=lh hl;have HP:=lh (show (pl d).getD 0=(i:Int) by rw[hp];rfl);have HM:=lh h.leaves;have HQ:=lh h.place;clear hl hp h zk huc aO;generalize (T.getD v []).getD j 0=z at *;generalize (T.getD v []).length=len at *;have hz:((len:Int)==0)=false:=by rw[beq_eq_false_iff_ne];omega
 have gH:True:=trivial
 go_enter Tryz.func181,Tryz.ntmps181
 go_wp2_with (first
  | (at_lookup;have _t:=gH;refine eT _ rfl _ _ rfl HM.out rfl hd rfl HL ?_;clear gH)
  | (at_lookup;refine kd _ rfl _ _ rfl HQ.out rfl hd rfl HP ?_))
 exact bodyPost_ret (v:=.tuple #[.int .i64 z,.bool true]) (by simp[results,Tryz.results181,go_sem]) rfl ⟨rfl,rfl⟩
namespace Plain
def fS (f:Int->Option Int) (l:List Int):Nat->Int->Option Int
 | 0=>f
 | k+1=>fun y=>if y=l.getD k 0 then some (k:Int) else fS f l k y
def places (T:List (List Int)):Nat->Int->Option Int
 | 0=>fun _=>none
 | k+1=>fS (places T k) (first (T.getD k [])) (first (T.getD k [])).length
def cu (T:List (List Int)):Nat->Nat
 | 0=>0
 | k+1=>cu T k+(T.getD k []).length
theorem jA (T:List (List Int)) {i j:Nat} (h:i<=j):cu T i<=cu T j:=by
 induction j with
 | zero=>rw[Nat.le_zero.1 h];exact Qu _
 | succ j ih =>
  rcases Nat.lt_or_ge i (j+1) with q | q
  ·exact Nat.le_trans (ih (by omega)) (Nat.le_add_right _ _)
  rw[Qv h q];exact Qu _
theorem mK (l:List Int):(first l).length=l.length:=by
 unfold first;have:=Hb l l.length;rw[Qr,List.length_drop,Qn];omega
theorem l7 (l:List Int) (x:Int):x∈first l↔x∈l:=by
 unfold first;rw[Qe,or_comm,<-Qe,Qg]
end Plain
theorem nX.row {w:World} {B:Nat} {v:Value} {l:List Int} (h:ax w B v l):nX v:=by
 rcases h.1.2 with ⟨rfl,h0⟩ | ⟨g,cap,cur,rfl,_,_,h1,h2,_⟩
 ·exact⟨_,_,_,rfl,Qu _,by decide⟩
 exact⟨_,_,_,rfl,h1,by unfold maxLen at h2;omega⟩
theorem bW.aac {w:World} {B:Nat} {ov:Value} {vs:List Value} {ll:List (List Int)} (h:bW w B ov vs ll) (hi:∀ l∈ll,(∀ x∈l,bn x)/\l.length<4294967296) (hn:ll.length<=9223372036854775807):eC w ov ll:=by
 obtain⟨ao,cap,e⟩:=cM h.out;have hl:=h.len;refine⟨ao,cap,by rw[e,hl],hn,fun i uT=>?_⟩;have WA:i<vs.length:=by omega
 obtain⟨g,c,e2⟩:=cN h.out (by omega);have hm:ll.getD i []∈ll:=by simp[Qb,uT]
 have hr:ax w B (vs.getD i undef) (ll.getD i []):=⟨h.rows i WA,(hi _ hm).1,(hi _ hm).2⟩;rw[e] at e2;simp only[Qc.injEq] at e2;obtain⟨rfl,-,-⟩:=e2;refine⟨g,0,vs.getD i undef,rfl,?_,nX.row hr,hr.ints⟩;have hc:=h.out.cells (g:=g) (by rw[e];rfl) i (vs.getD i undef) (by simp[Qb,WA]);have iw:(⟨g,0,none⟩:Addr).add i=⟨g,0+i,none⟩:=by unfold Addr.add;split <;> simp_all
 rwa[iw] at hc
theorem bJ {w:World} {b:Nat} {cs:Array Value} {t:TypeId} (h:w.heap[b]?=some (.cells cs t (0,0))) (i:Nat):w.frozen? ⟨b,i,none⟩=false:=by
 simp[World.frozen?,h]
theorem kA {w:World} {B:Nat} {v:Value} {n:Nat} {xs:List Value} {e t:TypeId} {sz b:Nat} {cs:Array Value} {r:Nat × Nat} (h:w.ownsRow B e sz v n xs) (hb:w.heap[b]?=some (.cells cs t r)) (he:e≠t):v.ownBlock≠some b:=by
 rcases h.2 with ⟨rfl,_⟩ | ⟨g,cap,cur,rfl,_,hg,_⟩
 ·simp[Qf]
 intro e1;simp[Qf] at e1;subst e1;rw[hg] at hb;simp at hb;exact he hb.2.1
theorem wY {w:World} {B:Nat} {v:Value} {n:Nat} {xs:List Value} {e:TypeId} {sz b m:Nat} {f:Int->Option Int} (h:w.ownsRow B e sz v n xs) (hb:bN w b m f):v.ownBlock≠some b:=by
 rcases h.2 with ⟨rfl,_⟩ | ⟨g,cap,cur,rfl,_,hg,_⟩
 ·simp[Qf]
 intro e1;simp[Qf] at e1;exact hb.ne hg e1
structure yn (w0 w:World) (vd:Value) (lb:Nat) (R:List (List Int)) (pl:Int->Option Int) (N:Nat):Prop where
 obj:∃ tv vs,w.heap[w0.heap.size+1]?=some (.cells #[tv,.map (some lb),.map (some w0.heap.size),vd] 193 (0,0))/\bW w w0.heap.size tv vs R
 place:bN w w0.heap.size N pl
 ch:ai [] w0 w
theorem yn.row {w0 w w':World} {vd v:Value} {lb g cap N n B c:Nat} {T5:Option Addr} {R:List (List Int)} {pl:Int->Option Int} {l:List Int} {vs:List Value} (h1:w.heap[w0.heap.size+1]?=some (.cells #[.slice T5 n c,.map (some lb),.map (some w0.heap.size),vd] 193 (0,0))) (h2:bW w w0.heap.size (.slice T5 n c) vs R) (h3:bN w w0.heap.size N pl) (h4:ai [] w0 w) (hB:w0.heap.size<=B)
  (hv:ax w B v l) (fD:∀ k b,k<vs.length->(vs.getD k undef).ownBlock=some b->b<B) (hn:w'.ownsRow w0.heap.size 25 1 (.slice (some ⟨g,0,none⟩) (vs.length+1) cap) (vs.length+1) (vs++[v])) (hc:ai (Qc T5 n c).ownBlock.toList w w') :
  yn w0 (w'.setCell ⟨w0.heap.size+1,0,none⟩ (.slice (some ⟨g,0,none⟩) (vs.length+1) cap)) vd lb (R++[l]) pl N:=by
 have gM:=kA h2.out h1 (by decide);have hnm:(Qc T5 n c).ownBlock≠some w0.heap.size:=wY h2.out h3;have Cc:=hc.heap h1 (by simpa using gM);have iw:=h2.add (oR hv.1 hB) (fun k b hk hb e=>by have:=fD k b hk hb;have:=(hv.low b (by rw[e];simp)).1;omega) hn hc;have bw:ai [w0.heap.size+1] w' (w'.setCell ⟨w0.heap.size+1,0,none⟩ (.slice (some ⟨g,0,none⟩) (vs.length+1) cap)):=(ai.refl _ _).setCell (QA (by simp)) _;refine⟨⟨_,_,heap_setCell_same Cc 0 _,iw.aM bw (fun b hb e=>?_) (fun k b hk hb e=>?_)⟩,(h3.aM hc (by simpa using hnm)).aM bw (by simp),(h4.trans hc (fun j hj=>QB ?_)).trans bw (fun j hj=>QB (by simp at hj;omega))⟩
 ·simp at e;subst e
  exact kA iw.out Cc (by decide) hb
 ·simp at e;subst e
  exact kA (iw.rows k hk) Cc (by decide) hb
 exact (h2.out.lt j (by simpa using hj)).1
set_option maxRecDepth 100000 in
set_option maxHeartbeats 1000000 in
theorem Ru (vt vd:Value) (T:List (List Int)) (lv:Int->Option Int) (ds:List Int) (lb n:Nat) (w:World) (Pz:T.length<2147483648) (hS:Plain.cu T T.length<2147483648) (ht:eC w vt T) (hl:iN w lb n lv) (hd:aJ w vd ds) :
  Calls Tryz.prog 179 #[vt,.map (some lb),vd] w fun e w'=>∃ Sc,e=.returned (.pointer (some ⟨w.heap.size+1,0,none⟩))/\nW w' (w.heap.size+1) (T.map Plain.first) lv (Plain.places T T.length) ds Sc vd lb w.heap.size n (Plain.cu T T.length)/\ai [] w w':=by
 have HT:=lh ht;have ir:=lh hS;have HN:=lh hl;have HD:=lh hd;obtain⟨WB,EM,rfl,-,-,-⟩:=hd;obtain⟨T5,tc,rfl,-,zk⟩:=ht;have Xh:=lh zk;have Fq:=lh hl.lt;have C0:=lh (((ai.refl [] w).alloc (.map #[] 0)).alloc (.cells #[.slice none 0 0,.map (some lb),.map (some w.heap.size),.slice WB ds.length EM] 193));have HT0:=lh (show yn w ((w.alloc (.map #[] 0)).alloc (.cells #[.slice none 0 0,.map (some lb),.map (some w.heap.size),.slice WB ds.length EM] 193)) (.slice WB ds.length EM) lb [] (Plain.places T 0) 0 from
  ⟨⟨_,[],by simpa using heap_alloc_new (w.alloc (.map #[] 0)) (.cells #[.slice none 0 0,.map (some lb),.map (some w.heap.size),.slice WB ds.length EM] 193),bW.nil _ _⟩,(bN.made w).alloc _,C0.out⟩)
 clear zk hl hS
 go_enter Tryz.func179,Tryz.ntmps179
 have nq:=fun n w=>fZ Tryz.underlying124 n w;have yV:=HN.out.len;go_wp2;clear nq yV;have y5:w.heap.size+2=((w.alloc (.map #[] 0)).alloc (.cells #[.slice none 0 0,.map (some lb),.map (some w.heap.size),.slice WB ds.length EM] 193)).heap.size:=by simp
 have uW:=lh y5;generalize sA:((w.alloc (.map #[] 0)).alloc (.cells #[.slice none 0 0,.map (some lb),.map (some w.heap.size),.slice WB ds.length EM] 193))=w1 at *;clear sA y5
 go_loopw [22] (fun c wr=>∃ k:Nat,k<=T.length/\c=.int .i64 k/\yn w wr (.slice WB ds.length EM) lb ((T.take k).map Plain.first) (Plain.places T k) (Plain.cu T k)) (fun c _=>T.length - (intOf c).toNat)
 case atStart=>exact⟨0,Qo _,rfl,HT0.out⟩
 case round =>
  obtain⟨k,hk,rfl,hrel⟩:=hrel;have HR:=lh hrel;by_cases aU:k<T.length
  ·obtain⟨tb,Ub,u,rfl,hu,j5,hints⟩:=Xh.out k aU
   have ck:=hrel.ch.c hu;have FE:=lh (hints.fresh hrel.ch);obtain⟨uo,uc,rfl,dS,DW,-⟩:=hints;obtain⟨⟨tv,vs,hb,kC⟩,hm,dI⟩:=hrel;obtain⟨tvo,tvc,rfl⟩:=cM kC.out;have wL:=lh (show ∀ k b,k<vs.length->(vs.getD k undef).ownBlock=some b->b<wr.heap.size from fun k b hk hb=>((kC.rows k hk).lt b hb).2);have HB:=lh hb;have uN:=lh kC;have HMM:=lh hm;have Vo:=lh dI;have yT:=lh (show vs.length=k by rw[kC.len,Qw,Qn];omega);have Za:=lh aU;have SU:Plain.cu T (k+1)=Plain.cu T k+(T.getD k []).length:=rfl;have Cg:=Plain.jA T (show k+1<=T.length from aU);have hkS:=ir.out;have HL:=lh (Plain.mK (T.getD k []));have HI:=lh (show ∀ x∈Plain.first (T.getD k []),bn x from fun x hx=>dS x ((Plain.l7 _ x).1 hx));have mU:=lh (show (T.getD k []).length<2147483648 by omega);have Su:=lh (show Plain.places T (k+1)=Plain.fS (Plain.places T k) (Plain.first (T.getD k [])) (Plain.first (T.getD k [])).length from rfl);have sE:=lh (show (T.take (k+1)).map Plain.first=(T.take k).map Plain.first++[Plain.first (T.getD k [])] by rw[Qa aU,List.map_append];simp[Qb,aU]);have GU:=lh (show Plain.cu T (k+1)=Plain.cu T k+(Plain.first (T.getD k [])).length by rw[HL.out];rfl);have VR:=lh (show Plain.cu T k+(Plain.first (T.getD k [])).length<2147483648 by rw[HL.out];omega);have HBW:=lh (show w.heap.size<=wr.heap.size from dI.size);clear dS DW hu SU Cg hkS hb kC hm dI aU;generalize T.getD k []=l at *
   go_wp2_with fail
   refine (LY _ l _ mU.out j5 FE.out).mono ?_;rintro e w2 ⟨v',rfl,bd,bG⟩;have B0:=lh (bG.heap HB.out (by simp));have LR:=lh (uN.out.aM bG (by simp) (by simp));have mD:=lh (HMM.out.aM bG (by simp));have cA:=lh (Vo.out.t bG);have bU:=lh bd;obtain⟨ro,rc,rfl⟩:=bd.shape;have YN:=lh bd.ints;clear j5 bd bG ck;generalize Plain.first l=L at *;clear HL FE mU;have hLL:L.length<2147483648:=by have:=VR.out;omega
   go_wp2
   go_loopw [30] (fun c wi=>∃ j:Nat,j<=L.length/\c=.int .i64 j/\bN wi w.heap.size (Plain.cu T k+j) (Plain.fS (Plain.places T k) L j)/\ai [w.heap.size] w2 wi) (fun c _=>L.length - (intOf c).toNat)
   case atStart=>exact⟨0,Qo _,rfl,mD.out,ai.refl _ _⟩
   case round =>
    obtain⟨j,hj,rfl,hm,dI⟩:=hrel;have HM:=lh hm;have Fj:=lh dI;by_cases nS:j<L.length
    ·obtain⟨lo,auI,hle,-,-,hlc⟩:=YN.out
     simp only[Qc.injEq] at hle;obtain⟨rfl,-,rfl⟩:=hle;obtain⟨rb,uR,rfl,Ce⟩:=hlc (by intro e;rw[e] at nS;simp at nS);have cj:=dI.cell (Ce j nS) (by intro e;obtain⟨cs,r,hh⟩:=bZ bU.out rb (by simp[aL,Qf]);exact mD.out.ne hh (by simpa using e));have c0:=(cell_of_row _ _ 2 _ _ _ (dI.heap B0.out (by simp))).trans (show _=some (Qz (some w.heap.size)) from rfl);have IJ:bn (j:Int):=bn.mk (by omega) (by have:=VR.out;omega);have IX:=HI.out (L.getD j 0) (by simp[Qb,nS]);have HPJ:=lh (show Plain.fS (Plain.places T k) L (j+1)=fun y=>if y=L.getD j 0 then some (j:Int) else Plain.fS (Plain.places T k) L j y from rfl);have VF:Plain.cu T k+j<maxLen:=by have:=VR.out;unfold maxLen;omega
     clear Ce hlc hm dI;generalize L.getD j 0=x at *
     go_wp2_with (at_mapUpdate;refine iG _ rfl _ _ _ rfl HM.out VF rfl IX IJ rfl rfl ?_;intro w3 m3 g3;have M3:=lh m3;have G3:=lh g3;clear m3 g3)
     go_roundw
     case rel=>exact⟨j+1,by omega,by go_num,by rw[HPJ.out];exact M3.out,Fj.out.grown G3.out (fun j hj=>by cases hj;exact QA (by simp))⟩
     case measure=>simp[intOf];omega
    have e:j=L.length:=by omega
    subst e;have M':=lh (dI.heap B0.out (by simp));have XA:=lh (LR.out.aM dI (fun b hb e=>by simp at e;subst e;exact wY LR.out.out mD.out hb) (fun k b hk hb e=>by simp at e;subst e;exact wY (LR.out.rows k hk) mD.out hb));have afc:=lh (bU.out.aM dI (fun b hb e=>by obtain⟨cs,r,hh⟩:=bZ bU.out b (by rw[bU.out.aL];exact hb);exact mD.out.ne hh (by simpa using e)));have dD:=lh (cA.out.trans dI (fun j hj=>QB (by simp at hj;omega)));have c0:=(cell_of_row _ _ 0 _ _ _ (dI.heap B0.out (by simp))).trans (show _=some (Qc tvo vs.length tvc) from rfl);have EF:vs.length<68719476736:=by have:=yT.out;have:=Za.out;have:=Pz;omega
    have Oe:=lh (show w.heap.size<=wr.heap.size from dD.out.size);have HNO:=lh (show w.heap.size+1 ∉ (Qc tvo vs.length tvc).ownBlock.toList from fun e=>kA XA.out.out M'.out (by decide) (by simpa using e));clear hm dI
    go_wp2_with (at_builtin;refine qA qS rfl (.tmp 46) (.tmp 48) rfl (v:=.slice tvo vs.length tvc) rfl rfl rfl XA.out.out Oe.out rfl (Ei _ _ _) EF ?_;intro g cap w4 r4 c4 l4;have R4:=lh r4;have C4:=lh c4;have b4:=c4.heap M'.out HNO.out;have s4:=(cell_of_row _ _ 0 _ _ _ b4).trans (show _=some (Qc tvo vs.length tvc) from rfl);have z4:w4.frozen? ⟨w.heap.size+1,0,none⟩=false:=bJ b4 0;clear r4 c4 l4 b4)
    have HT5:=lh (M'.out);have HT6:=lh (yn.row M'.out XA.out HM.out dD.out HBW.out afc.out wL.out R4.out C4.out);rw[<-sE.out,<-GU.out,<-Su.out] at HT6
    go_roundw
    case rel=>exact⟨k+1,by have:=Za.out;omega,by go_num,HT6.out⟩
    case measure=>have:=Za.out;simp[intOf];omega
  have e:k=T.length:=by omega
  subst e;clear hrel;have wP:=lh (show ∃ Sc,nW wr (w.heap.size+1) (T.map Plain.first) lv (Plain.places T T.length) ds Sc (.slice WB ds.length EM) lb w.heap.size n (Plain.cu T T.length) by
   obtain⟨⟨tv,vs,hb,kC⟩,hm,dI⟩:=HR.out;rw[Qh] at kC;refine⟨tv,hb,kC.aac (fun l hl=>?_) (by rw[Qw];omega),HN.out.E9.aM dI (by simp),hm,HD.out.fresh dI⟩;obtain⟨q,hq,rfl⟩:=List.mem_map.1 hl;obtain⟨i,hi,e⟩:=Qd hq;have hqi:T.getD i []=q:=by simp[Qb,hi,e]
   obtain⟨_,_,u,_,_,_,hints⟩:=Xh.out i hi;rw[hqi] at hints;obtain⟨_,_,_,dS,_,_⟩:=hints;have h1:Plain.cu T (i+1)=Plain.cu T i+(T.getD i []).length:=rfl;have h2:=Plain.jA T (show i+1<=T.length from hi);have h3:=ir.out;rw[hqi] at h1;exact⟨fun x hx=>dS x ((Plain.l7 _ x).1 hx),by rw[Plain.mK];omega⟩)
  have vL:=lh (HR.out.ch);go_wp2;go_ret;obtain⟨Sc,h⟩:=wP.out;exact⟨Sc,rfl,h,vL.out⟩
end Go.Proofs.YtbkjljffnkdcjaaGreat
namespace Go.Proofs.YtbkjljffnkdcjaaGreat.Plain
theorem bQ:∀ {l m:List Int},l.Nodup->(∀ x∈l,x∈m)->l.length<=m.length
 | [],_,_,_=>Qo _
 | x :: l,m,h,hs=>by
  rw[Qx] at h;obtain⟨a,b,rfl⟩:=List.append_of_mem (hs x (by simp));have h2:=bQ h.2 (m:=a++b) (fun y hy=>by
   have h3:=hs y (by simp[hy]);have h4:y≠x:=fun e=>h.1 (e ▸ hy);simp only[Qe,Qq] at h3 ⊢;rcases h3 with q | q | q
   ·exact QA q
   ·exact absurd q h4
   exact QB q)
  simp only[Qr,Qm] at h2 ⊢;omega
def seen (aa:List (List Int)) (k j:Nat):List Int:=(aa.take k).flatten++(aa.getD k []).take j
theorem oK {l:List Int} {j:Nat} (hj:j<l.length):l.take (j+1)=l.take j++[l.getD j 0]:=by
 rw[Qa hj];simp[Qb,hj]
theorem ji {L:List (List Int)}:L.flatten.Nodup↔(∀ l∈L,l.Nodup)/\L.Pairwise fun a b=>∀ x∈a,∀ y∈b,x≠y:=List.pairwise_flatten
theorem sT (aa:List (List Int)):seen aa 0 0=[]:=by simp[seen]
theorem sZ {aa:List (List Int)} {k j:Nat} (hj:j<(aa.getD k []).length):seen aa k (j+1)=seen aa k j++[(aa.getD k []).getD j 0]:=by
 unfold seen;rw[Qk,oK hj]
theorem EV {aa:List (List Int)} {k:Nat} (hk:k<aa.length):seen aa (k+1) 0=seen aa k (aa.getD k []).length:=by
 unfold seen;rw[Qa hk,List.take_zero,List.append_nil,Qp,Qh];simp[Qb,hk]
theorem Cs (aa:List (List Int)):seen aa aa.length 0=aa.flatten:=by simp[seen]
structure Good (g:Gr) (p:Pt) (aa:List (List Int)) (k j:Nat):Prop where
 nodup:(seen aa k j).Nodup
 rows:∀ i,i<k->∀ d∈aa.getD i [],d∈p.ag/\g.tail d=(i:Int)
 last:∀ d∈(aa.getD k []).take j,d∈p.ag/\g.tail d=(k:Int)
theorem Good.start (g:Gr) (p:Pt) (aa:List (List Int)):Good g p aa 0 0:=⟨by rw[sT];exact List.nodup_nil,fun i hi=>by omega,by simp⟩
theorem Good.next {g:Gr} {p:Pt} {aa:List (List Int)} {k j:Nat} (h:Good g p aa k j) (hj:j<(aa.getD k []).length) (hd:(aa.getD k []).getD j 0∈p.ag) (ht:g.tail ((aa.getD k []).getD j 0)=(k:Int)) (hn:(aa.getD k []).getD j 0 ∉ seen aa k j):Good g p aa k (j+1):=by
 refine⟨?_,h.rows,fun d Cf=>?_⟩
 ·rw[sZ hj,Ql]
  exact⟨h.nodup,by simp,fun a ha b hb e=>by simp at hb;subst hb;subst e;exact hn ha⟩
 rw[oK hj,Qe] at Cf;rcases Cf with q | q
 ·exact h.last d q
 have e:d=(aa.getD k []).getD j 0:=List.mem_singleton.1 q;rw[e];exact⟨hd,ht⟩
theorem Good.row {g:Gr} {p:Pt} {aa:List (List Int)} {k:Nat} (h:Good g p aa k (aa.getD k []).length) (hk:k<aa.length):Good g p aa (k+1) 0:=by
 refine⟨by rw[EV hk];exact h.nodup,fun i hi d hd=>?_,by simp⟩;by_cases e:i<k
 ·exact h.rows i e d hd
 obtain rfl:i=k:=by omega
 exact h.last d (by rw[Qh];exact hd)
theorem Ny {aa:List (List Int)} {v:Nat} {d:Int} (h:d∈aa.getD v []):d∈aa.flatten:=by
 by_cases hv:v<aa.length
 ·refine Qt.2 ⟨aa.getD v [],?_,h⟩
  simp[Qb,hv]
 simp[Qb,Qy.1 hv] at h
theorem nJ {aa:List (List Int)} {d:Int} (h:d∈aa.flatten):∃ v,v<aa.length/\d∈aa.getD v []:=by
 obtain⟨l,hl,hd⟩:=Qt.1 h;obtain⟨i,hi,rfl⟩:=Qd hl;exact⟨i,hi,by simpa[Qb,hi] using hd⟩
theorem Good.turns {g:Gr} {p:Pt} {aa:List (List Int)} (_hp:aH g p) (hn:(aa.length:Int)=g.n) (h:Good g p aa aa.length 0) (hl:aa.flatten.length=2*p.e.length):aT g p aa:=by
 have fs:aa.flatten.Nodup:=by have:=h.nodup;rwa[Cs] at this
 have gB:∀ d∈aa.flatten,d∈p.ag:=fun d hd=>by
  obtain⟨v,hv,hd⟩:=nJ hd;exact (h.rows v hv d hd).1
 have am0:∀ d∈p.ag,d∈aa.flatten:=fun d hd=>by
  refine Qi fun gM=>?_;have:=bQ (l:=d :: aa.flatten) (m:=p.ag) (by rw[Qx];exact⟨gM,fs⟩) (fun x hx=>by
   rcases Qq.1 hx with q | q
   ·rw[q];exact hd
   exact gB x q)
  rw[Qm,cw] at this;omega
 refine⟨hn,fun v=>?_,fun v hv0 hv1 d=>⟨fun hd=>?_,fun hd=>?_⟩⟩
 ·unfold aI
  by_cases hv:v.toNat<aa.length
  ·have:aa.getD v.toNat []∈aa:=by simp[Qb,hv]
   exact (ji.1 fs).1 _ this
  simp[Qb,Qy.1 hv]
 ·have:=h.rows v.toNat (by omega) d hd
  refine⟨this.1,by omega⟩
 obtain⟨u,hu,hdu⟩:=nJ (am0 d hd.1);have:=(h.rows u hu d hdu).2;have e:u=v.toNat:=by omega
 subst e;exact hdu
theorem aT.row {g:Gr} {p:Pt} {aa:List (List Int)} (h:aT g p aa) {i:Nat} (hi:i<aa.length) {d:Int} (hd:d∈aa.getD i []):d∈p.ag/\g.tail d=(i:Int):=by
 have:=(h.mem (i:Int) (by omega) (by have:=h.len;omega) d).1 (by unfold aI;simpa using hd);exact this
theorem aT.xC {g:Gr} {p:Pt} {aa:List (List Int)} (h:aT g p aa):aa.flatten.Nodup:=by
 rw[ji];refine⟨fun l hl=>?_,?_⟩
 ·obtain⟨i,hi,rfl⟩:=Qd hl
  have:=h.nodup (i:Int);unfold aI at this;simpa[Qb,hi] using this
 rw[Qj];intro i j hi hj MR x hx y hy e;subst e;have h1:=(h.row hi (d:=x) (by simpa[Qb,hi] using hx)).2;have h2:=(h.row hj (d:=x) (by simpa[Qb,hj] using hy)).2;omega
theorem aT.PK {g:Gr} {p:Pt} {aa:List (List Int)} (hp:aH g p) (h:aT g p aa):aa.flatten.length=2*p.e.length:=by
 rw[<-cw];refine Qv (bQ h.xC fun d hd=>?_) (bQ (cP hp.en) fun d hd=>?_)
 ·obtain⟨v,hv,hd⟩:=nJ hd
  exact (h.row hv hd).1
 have hv:=hp.vr _ (hp.aQ hd).1;have h1:d∈aI aa (g.tail d):=(h.mem (g.tail d) hv.1 hv.2 d).2 ⟨hd,rfl⟩;exact Ny h1
theorem RS (aa:List (List Int)) (k j:Nat):∃ r,aa.flatten=seen aa k j++r:=by
 by_cases hk:k<aa.length
 ·refine⟨(aa.getD k []).drop j++(aa.drop (k+1)).flatten,?_⟩
  have e:aa=aa.take k++aa.getD k [] :: aa.drop (k+1):=by
   have:aa.getD k []=aa[k]:=by simp[Qb,hk]
   rw[this,List.getElem_cons_drop,Qg]
  conv=>lhs;rw[e]
  unfold seen;rw[Qp,List.flatten_cons,Qk,<-Qk ((aa.getD k []).take j),Qg]
 refine⟨[],?_⟩;unfold seen;rw[List.take_of_length_le (by omega)];simp[Qb,Qy.1 hk]
theorem aT.once {g:Gr} {p:Pt} {aa:List (List Int)} (h:aT g p aa) {k j:Nat} (hj:j<(aa.getD k []).length):(aa.getD k []).getD j 0 ∉ seen aa k j:=by
 intro hm;obtain⟨r,hr⟩:=RS aa k (j+1);have hn:=h.xC;rw[hr,sZ hj,Ql] at hn;have:=hn.1;rw[Ql] at this;exact this.2.2 _ hm _ (by simp) rfl
open Classical in
noncomputable def bH (g:Gr) (p:Pt) (aa:List (List Int)):Int:=if p.err g≠0 then p.err g else if aT g p aa then 0 else 5
theorem qU {g:Gr} {p:Pt} {aa:List (List Int)} (h:p.err g≠0):bH g p aa=p.err g:=if_pos h
theorem iq {g:Gr} {p:Pt} {aa:List (List Int)} (h:p.err g=0) (ht:¬ aT g p aa):bH g p aa=5:=by
 unfold bH;rw[if_neg (by simp[h]),if_neg ht]
theorem Iq {g:Gr} {p:Pt} {aa:List (List Int)} (h:p.err g=0) (ht:aT g p aa):bH g p aa=0:=by
 unfold bH;rw[if_neg (by simp[h]),if_pos ht]
theorem gw {g:Gr} {p:Pt} {aa:List (List Int)} (h:bH g p aa=0):p.err g=0/\aT g p aa:=by
 by_cases h1:p.err g=0
 ·refine⟨h1,Qi fun h2=>?_⟩
  rw[iq h1 h2] at h;cases h
 rw[qU h1] at h;exact absurd h h1
def cO (g:Gr) (p:Pt) (k:Nat):Int->Option Int:=fun d=>if d∈Pt.ag ⟨[],p.e.take k⟩ then some (g.tail d) else none
theorem yl {p:Pt} {k:Nat} (hk:k<p.e.length):Pt.ag ⟨[],p.e.take (k+1)⟩=Pt.ag ⟨[],p.e.take k⟩++[2*p.e.getD k 0,2*p.e.getD k 0+1]:=by
 unfold Pt.ag;rw[Qa hk,List.flatMap_append];simp[Qb,hk]
theorem yU (g:Gr) (p:Pt):cO g p 0=fun _=>none:=by funext d;simp[cO,Pt.ag]
theorem sx (g:Gr) (p:Pt):cO g p p.e.length=fun d=>if d∈p.ag then some (g.tail d) else none:=by
 funext d;unfold cO;rw[Qh];rfl
theorem zw {g:Gr} {p:Pt} {k e:Nat} (hk:k<p.e.length) (he:p.e.getD k 0=(e:Int)) :
  cO g p (k+1)=fun y=>if y=2*(e:Int)+1 then some (g.ends e).2 else if y=2*(e:Int) then some (g.ends e).1 else cO g p k y:=by
 funext y
 unfold cO;rw[yl hk,he];have t0:g.tail (2*(e:Int))=(g.ends e).1:=by unfold Gr.tail Gr.at;rw[if_pos (by omega)];congr 2;omega
 have t1:g.tail (2*(e:Int)+1)=(g.ends e).2:=by unfold Gr.tail Gr.at;rw[if_neg (by omega)];congr 2;omega
 simp only[Qe,Qq,List.not_mem_nil,or_false];by_cases h1:y=2*(e:Int)+1
 ·subst h1;simp[t1]
 by_cases h2:y=2*(e:Int)
 ·subst h2;rw[if_neg h1,if_pos rfl,t0,if_pos (by simp)]
 simp[h1,h2]
theorem rZ {g:Gr} {p:Pt} (hp:p.e.Pairwise (·<·)) {k:Nat} (hk:k<p.e.length) {d:Int} (hd:d / 2=p.e.getD k 0):cO g p k d=none:=by
 unfold cO;refine if_neg fun h=>?_;rw[aw,hd] at h;obtain⟨i,hi,e⟩:=Qd h;rw[Qn] at hi;rw[List.getElem_take] at e;have:=Qj.1 hp i k (by omega) hk (by omega);rw[e] at this;simp[Qb,hk] at this
end Go.Proofs.YtbkjljffnkdcjaaGreat.Plain
