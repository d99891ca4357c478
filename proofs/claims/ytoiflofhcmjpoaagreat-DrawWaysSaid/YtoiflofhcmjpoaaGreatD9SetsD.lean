/- package sets: contracts of gz and of the laws' own example. Conditions: a list of fewer than 2^32 ints. -/
import Derived.Test.YtoiflofhcmjpoaaGreatD9SetsC
import Derived.Test.YtoiflofhcmjpoaaGreatD9Row
open List renaming take_succ_eq_append_getElem→Qa,getD→Qb,getElem_of_mem→Qd,mem_append→Qe,take_append_drop→Qg,take_length→Qh,pairwise_iff_getElem→Qi,append_assoc→Qj,nodup_append→Qk,length_take→Ql,flatten_append→Qn,mem_cons→Qo,length_append→Qp,length_cons→Qr,mem_flatten→Qs,length_map→Qv,nodup_cons→Qw
open Go.Value renaming slice→Qc,ownBlock→Qf,map→Qy
open Nat renaming zero_le→Qm,le_refl→Qt,le_antisymm→Qu,not_lt→Qx
open Go.World renaming ownsRow_nil→Qq
open Or renaming inl→Qz,inr→QA
namespace Go.Proofs.YtoiflofhcmjpoaaGreat
open Go.RowKit Go.Maps
theorem cw.empty (w:World):cw ((w.alloc (.map #[] 0)).alloc (.cells #[.map (some w.heap.size),.slice none 0 0,.slice none 0 0,.int .i64 0] 173)) (w.heap.size+1) [w.heap.size+1,w.heap.size] ⟨[],[]⟩:=by
 refine⟨w.heap.size,.slice none 0 0,.slice none 0 0,[],⟨?_,?_,Qq _ _ _ _,Qq _ _ _ _,Qz rfl,⟨rfl,by simp⟩,rfl,by simp,by simp⟩,rfl⟩
 ·have:=heap_alloc_new (w.alloc (.map #[] 0)) (.cells #[.map (some w.heap.size),.slice none 0 0,.slice none 0 0,.int .i64 0] 173)
  have e:(w.alloc (.map #[] 0)).heap.size=w.heap.size+1:=by simp
  rw[e] at this;exact this
 have:(pos ([]:List Int))=fun _=>none:=by funext x;simp[pos]
 simp only[List.length_nil];rw[this];exact (bK.made w).alloc _
def St.new (l:List Int):St:=l.foldl St.put ⟨[],[]⟩
theorem St.LR {l:List Int} {k:Nat} (h:k<l.length):St.new (l.take (k+1))=(St.new (l.take k)).put (l.getD k 0):=by
 unfold St.new;rw[Qa h,List.foldl_append]
 grind
theorem St.H5 (l:List Int):(St.new l).all.length<=l.length:=by
 have:∀ (l:List Int) (s:St),(l.foldl St.put s).all.length<=s.all.length+l.length:=by
  intro l
  induction l with
  | nil=>intro s;simp
  | cons x r ih =>
   grind [St.zE]
 grind [St.new]
theorem RQ (v:Value) (l:List Int) (w:World) (hn:l.length<4294967296) (h:al w v l) :
  Calls Tryz.prog 92 #[v] w fun e w'=>∃ pb own,e=.returned (.pointer (some ⟨pb,0,none⟩))/\cw w' pb own (St.new l)/\ag [] w w'/\∀ j∈own,w.heap.size<=j:=by
 obtain⟨ao,cap,rfl,dK,-,aK⟩:=h;have mY:=@run_makeMap Tryz.prog;have HE:=lh (cw.empty w)
 go_enter Tryz.func92,Tryz.ntmps92
 go_wp2
 go_loopw [11] (fun c wr=>∃ k:Nat,k<=l.length/\c=.int .i64 k/\∃ own,cw wr (w.heap.size+1) own (St.new (l.take k))/\ag [] w wr/\∀ j∈own,w.heap.size<=j) (fun c _=>l.length - (intOf c).toNat)
 case atStart=>exact⟨0,Qm _,rfl,_,HE.out,((ag.refl _ _).alloc _).alloc _,by simp⟩
 case round =>
  obtain⟨k,hk,rfl,own,SZ,dV,bH⟩:=hrel;by_cases aL:k<l.length
  ·obtain⟨b,off,rfl,hc⟩:=aK (by grind)
   have ck:=dV.c (hc k aL);have hx:=dK (l.getD k 0) (by grind);have hl:=St.H5 (l.take k);have Az:(l.take k).length<=k:=by grind
   have HX:=lh (St.LR aL);have HS:=lh dK;have HC:=lh hc;clear aK hc dK;generalize l.getD k 0=x at *
   go_wp2_with fail
   refine (RH _ own _ x _ hx (by omega) SZ).mono ?_;rintro e w2 ⟨rfl,zw,Ds,bA,Dg⟩;have Xw:=lh Ds;have qk:=dV.trans bA (fun j hj=>QA (bH j hj));have dj:=dV.size;have Ic:∀ j∈zw,w.heap.size<=j:=fun j hj=>by grind
   clear SZ dV bH Ds bA Dg ck;go_wp2
   go_roundw
   case rel=>exact⟨k+1,by omega,by go_num,zw,by rw[HX.out];exact Xw.out,qk,Ic⟩
   case measure=>simp[intOf];omega
  have e:k=l.length:=by omega
  subst e;have HO:=lh SZ;clear SZ;go_wp2;go_ret;exact⟨_,own,rfl,by simpa using HO.out,dV,bH⟩
def gP (w:World) (b n:Nat) (f:Int->Option Int):Prop :=
 ∃ D:DataW Unit,w.ownsMap Tryz.prog 3 (plainElem Tryz.prog 3) b n D/\Maps.size D=n /\
  ∀ x,aU x->Maps.has D (.int .i64 x)=(f x).isSome/\D.atKey (.int .i64 x) (.lit (.int .i64 0))=.lit (.int .i64 ((f x).getD 0))
theorem gP.Dc {w:World} {b n:Nat} {f:Int->Option Int} (h:gP w b n f):bK w b n f:=by obtain⟨D,h1,_,h2⟩:=h;exact⟨D,h1,h2⟩
theorem gP.made (w:World):gP (w.alloc (.map #[] 0)) w.heap.size 0 (fun _=>none) :=
 ⟨.map [],World.ownsMap_made _ _ _ _,rfl,fun _ _=>⟨rfl,rfl⟩⟩
theorem gP.aD {w w':World} {own:List Nat} {b n:Nat} {f:Int->Option Int} (h:gP w b n f) (hc:ag own w w') (hb:b ∉ own):gP w' b n f:=by
 obtain⟨D,⟨es,clock,he,r⟩,g⟩:=h;exact⟨D,⟨es,clock,hc.heap he hb,r⟩,g⟩
theorem gP.lt {w:World} {b n:Nat} {f:Int->Option Int} (h:gP w b n f):b<w.heap.size:=h.Dc.lt
theorem fG {t k e:TypeId} (ht:Tryz.prog.underlying t=some (.map k e)) (n:Int) (w:World):(Instr.makeMap t (some (.int .i64 n))).run Tryz.prog w=.ok (.map (some w.heap.size)) (w.alloc (.map #[] 0)):=by
 simp[Instr.makeMap,run_underlying ht,asInt,asIntOf,Result.andThen]
theorem notFound {P:Program} {k:TypeId} (K:Keyed P k) {R:Value->Option (DataW Unit × List MemPlace)} {es:Array MapEntry} {clock:Nat} (F:WideElems.Fit P k R es clock) {key:Value} {kl:Lit} (js:keyOf P k key=some kl)
  (hh:Maps.has (.map ((es.toList.map (WideElems.rg P k R)).foldr DataW.insert [])) kl=false) (w:World):(Instr.findKey k key es.toList).run P w=.ok none w/\∀ e∈es.toList,e.key≠key:=by
 rcases K.find w js es.toList F.keys with h | ⟨j,e0,h1,h2,h3⟩
 ·exact h
 exfalso;have hf:=filter_one K F js h2 h3;have hj:j<es.toList.length:=(List.getElem?_eq_some_iff.1 h2).1;rw[has_eq] at hh;have hp:=Go.WideShapes.sorted_perm (es.toList.map (WideElems.rg P k R));have h0:∀ p∈es.toList.map (WideElems.rg P k R),p.1.sameKey kl=false:=fun p hp'=>by
  have:=List.any_eq_false.1 hh p (hp.mem_iff.2 hp');simpa using this
 have e1:(es.toList.map (WideElems.rg P k R)).filter (ChangeMaps.notKey kl)=es.toList.map (WideElems.rg P k R):=List.filter_eq_self.2 fun p hp'=>by
  unfold ChangeMaps.notKey;rw[h0 p hp'];rfl
 rw[e1] at hf;have:=congrArg List.length hf;rw[List.length_eraseIdx,if_pos (by simpa using hj)] at this;simp at this hj;omega
section
variable {w : World} {b n : Nat} {f : Int -> Option Int}
theorem gP.put (h:gP w b n f) (hn:n<maxLen) {k v:Int} (hk:aU k) (hv:aU v) (hf:f k=none) :
  ∃ w2,(Instr.mapUpdate 124 (.map (some b)) (.int .i64 k) (.int .i64 v)).run Tryz.prog w=.ok () w2/\gP w2 b (n+1) (fun y=>if y=k then some v else f y)/\ag [b] w w2:=by
 obtain⟨D,ho,hs,hD⟩:=h;have js:=keyOf_int_mk Tryz.underlying3 hk;obtain⟨w2,h1,h2,h3⟩:=ho.update bI Tryz.underlying124 hn js (plainElem_int Tryz.underlying3 hv);refine⟨w2,h1,⟨_,h2,?_,fun y hy=>?_⟩,(ag.refl _ _).grown h3 (fun j hj=>by cases hj;exact Qz (by simp))⟩
 ·rw[size_put (ho.tidy bI),(hD k hk).1,hf,hs]
  rfl
 by_cases e:y=k
 ·subst e
  have nS:=bI.key js;rw[has_put_same ho.isMap nS,atKey_put_same ho.isMap nS];simp
 rw[has_put_other (kJ e),atKey_put_other (kJ e)];simp only[if_neg e];exact hD y hy
theorem gP.entry (h:gP w b n f) (hn:n<maxLen) {k v:Int} (hk:aU k) (hv:aU v) (hf:f k=none) :
  ∃ st w1 w2,(Instr.mapEntry 124 (.map (some b)) (.int .i64 k)).run Tryz.prog w=.ok (.tuple #[.int .i64 0,.int .i64 st]) w1/\ag [b] w w1 /\
   (Instr.entryStore 124 (.map (some b)) (.int .i64 st) (.int .i64 v)).run Tryz.prog w1=.ok () w2/\gP w2 b (n+1) (fun y=>if y=k then some v else f y)/\ag [b] w w2:=by
 obtain⟨w2,h1,h2,h3⟩:=h.put hn hk hv hf;obtain⟨D,⟨es,clock,hb,F,dj,rfl⟩,hs,hD⟩:=h;have js:=keyOf_int_mk Tryz.underlying3 hk;obtain⟨g1,g2⟩:=notFound bI F js (by rw[(hD k hk).1,hf];rfl) w;have hu:=Tryz.underlying124;simp only[Instr.mapUpdate,Sem.run_bind,run_underlying hu,MapKept.run_getObj_map hb,bI.check w false js,g1,MapKept.run_setObj_map _ hb,Result.andThen] at h1;have e2:w2=ChangeMaps.setBlock w b (.map (es.push ⟨.int .i64 k,.int .i64 v,clock⟩) (clock+1)):=by
  simp[ChangeMaps.setBlock] at h1 ⊢;exact h1.symm
 have fz:=ChangeMaps.heap_setBlock_same hb (.map (es.push ⟨.int .i64 k,.int .i64 0,clock⟩) (clock+1));refine⟨clock,ChangeMaps.setBlock w b (.map (es.push ⟨.int .i64 k,.int .i64 0,clock⟩) (clock+1)),w2,?_,⟨rfl,rfl,rfl,by simp[ChangeMaps.setBlock],fun i _ hi=>ChangeMaps.heap_setBlock_other hb _ (fun e=>hi (by simp[e]))⟩,?_,h2,h3⟩
 ·simp[Instr.mapEntry,run_underlying hu,MapKept.run_getObj_map hb,bI.check w false js,g1,MapKept.run_setObj_map _ hb,Result.andThen,ChangeMaps.setBlock,goInt]
 have lk:(es.push ⟨.int .i64 k,.int .i64 0,clock⟩).findIdx? (fun e=>(e.born:Int)==(clock:Int))=some es.size:=by
  rw[Array.findIdx?_eq_some_iff_getElem];refine⟨by simp,by simp,fun j hj=>?_⟩;rw[Array.getElem_push_lt hj];have:=F.stamped.1 es[j] (by simp);simp;omega
 have xj:(es.push ⟨.int .i64 k,.int .i64 0,clock⟩).modify es.size (fun e=>{ e with val:=.int .i64 v })=es.push ⟨.int .i64 k,.int .i64 v,clock⟩:=by
  apply Array.ext
  ·simp
  intro i h1 h2;simp only[Array.getElem_modify,Array.getElem_push];split <;> split <;> simp_all <;> omega
 simp only[Instr.entryStore,Sem.run_bind,MapKept.run_getObj_map fz,Result.andThen,asInt,asIntOf,Sem.run_pure,lk,MapKept.run_setObj_map _ fz,xj,e2];simp[ChangeMaps.setBlock]
theorem gP.len (h:gP w b n f) (ty:TypeId):(Builtin.len_ #[124] ty #[.map (some b)]).run Tryz.prog w=.ok (.int .i64 n) w:=by
 obtain⟨D,ho,hs,-⟩:=h;rw[ho.len Tryz.underlying124 ty,hs]
end
section
variable (w : World) {ops : Array Oper} {rest : List Oper} {o : Oper} {a : Act} {Q : Exit -> Act -> World -> Prop} {K : Act -> World -> Prop}
theorem JB (hg:o.guard=none) (m x u:Operand) (jM:o.op=Op.mapUpdate 124 m x u) {b n:Nat} {f:Int->Option Int} (h:gP w b n f) (hn:n<maxLen) (hm:a.eval m=.map (some b))
  {k v:Int} (hk:aU k) (hv:aU v) (hf:f k=none) (hx:a.eval x=.int .i64 k) (hu:a.eval u=.int .i64 v)
  (hK:∀ w',gP w' b (n+1) (fun y=>if y=k then some v else f y)->ag [b] w w'->wpList Tryz.prog ops Q rest (a.put o.dst undef) w'):wpList Tryz.prog ops Q (o :: rest) a w:=by
 refine wpList_plain hg fun K' ta=>?_;obtain⟨w2,fS,r1,r2⟩:=h.put hn hk hv hf;unfold Oper.wp;simp[execOp,jM,hm,hx,hu,fS,Result.andThen];exact ta _ _ (hK w2 r1 r2)
theorem AP (m x:Operand) (jM:o.op=Op.mapEntry 124 m x) {b:Nat} {k:Int} {w1:World} {v:Value} (fS:(Instr.mapEntry 124 (.map (some b)) (.int .i64 k)).run Tryz.prog w=.ok v w1) (hm:a.eval m=.map (some b)) (hx:a.eval x=.int .i64 k)
  (hK:K (a.put o.dst v) w1):o.wp Tryz.prog a w K Q:=by
 unfold Oper.wp;simp[execOp,jM,hm,hx,fS,Result.andThen];exact hK
theorem yG (m x u:Operand) (jM:o.op=Op.entryStore 124 m x u) {b:Nat} {st v:Int} {w1:World} (fS:(Instr.entryStore 124 (.map (some b)) (.int .i64 st) (.int .i64 v)).run Tryz.prog w=.ok () w1) (hm:a.eval m=.map (some b)) (hx:a.eval x=.int .i64 st) (hu:a.eval u=.int .i64 v)
  (hK:K (a.put o.dst undef) w1):o.wp Tryz.prog a w K Q:=by
 unfold Oper.wp;simp[execOp,jM,hm,hx,hu,fS,Result.andThen];exact hK
end
structure nf (w:World) (rb:Nat) (T:List (List Int)) (lv pl:Int->Option Int) (ds:List Int) (vt vd:Value) (lb pb n m:Nat):Prop where
 cells:w.heap[rb]?=some (.cells #[vt,.map (some lb),.map (some pb),vd] 201 (0,0))
 aa:cf w vt T
 leaves:bK w lb n lv
 place:bK w pb m pl
 ah:al w vd ds
theorem BB (rb:Nat) (T:List (List Int)) (lv pl:Int->Option Int) (ds:List Int) (vt vd:Value) (lb pb n m:Nat) (d step:Int) (v i j:Nat) (w:World) (hd:aU d) (hl:lv d=some (v:Int)) (hp:pl d=some (i:Int)) (hv:v<T.length) (_hT:T.length<4294967296) (hi:i<(T.getD v []).length) (hlen:(T.getD v []).length<4294967296)
  (hs:-1<=step/\step<=1) (hj:Int.tmod ((i:Int)+step+((T.getD v []).length:Int)) ((T.getD v []).length:Int)=(j:Int)) (rj:j<(T.getD v []).length) (h:nf w rb T lv pl ds vt vd lb pb n m) :
  Calls Tryz.prog 187 #[.pointer (some ⟨rb,0,none⟩),.int .i64 d,.int .i64 step] w fun e w'=>e=.returned (.tuple #[.int .i64 ((T.getD v []).getD j 0),.bool true])/\w=w':=by
 obtain⟨PX,tc,rfl,-,wY⟩:=h.aa;obtain⟨tb,IB,u,rfl,hu,-,hints⟩:=wY v hv;obtain⟨uo,uc,rfl,-,-,huc⟩:=hints;obtain⟨ub,wK,rfl,aK⟩:=huc (by intro e;rw[e] at hi;simp at hi);have cj:=aK j rj;have c0:=(cell_of_row _ _ 0 _ _ _ h.cells).trans (show _=some (Qc (some ⟨tb,IB,none⟩) T.length tc) from rfl);have c1:=(cell_of_row _ _ 1 _ _ _ h.cells).trans (show _=some (Qy (some lb)) from rfl);have c2:=(cell_of_row _ _ 2 _ _ _ h.cells).trans (show _=some (Qy (some pb)) from rfl);have HL:=lh hl;have HP:=lh (show (pl d).getD 0=(i:Int) by rw[hp];rfl);have HM:=lh h.leaves;have HQ:=lh h.place;clear hl hp h wY huc aK;generalize (T.getD v []).getD j 0=z at *;generalize (T.getD v []).length=len at *;have hz:((len:Int)==0)=false:=by rw[beq_eq_false_iff_ne];omega
 have fM:True:=trivial
 go_enter Tryz.func187,Tryz.ntmps187
 go_wp2_with (first
  | (at_lookup;have _t:=fM;refine eG _ rfl _ _ rfl HM.out rfl hd rfl HL ?_;clear fM)
  | (at_lookup;refine iZ _ rfl _ _ rfl HQ.out rfl hd rfl HP ?_))
 exact bodyPost_ret (v:=.tuple #[.int .i64 z,.bool true]) (by simp[results,Tryz.results187,go_sem]) rfl ⟨rfl,rfl⟩
namespace Plain
def fB (f:Int->Option Int) (l:List Int):Nat->Int->Option Int
 | 0=>f
 | k+1=>fun y=>if y=l.getD k 0 then some (k:Int) else fB f l k y
def places (T:List (List Int)):Nat->Int->Option Int
 | 0=>fun _=>none
 | k+1=>fB (places T k) (first (T.getD k [])) (first (T.getD k [])).length
def bU (T:List (List Int)):Nat->Nat
 | 0=>0
 | k+1=>bU T k+(T.getD k []).length
theorem iG (T:List (List Int)) {i j:Nat} (h:i<=j):bU T i<=bU T j:=by
 induction j with
 | zero=>rw[Nat.le_zero.1 h];exact Qt _
 | succ j ih =>
  rcases Nat.lt_or_ge i (j+1) with q | q
  ·exact Nat.le_trans (ih (by omega)) (Nat.le_add_right _ _)
  rw[Qu h q];exact Qt _
theorem lg (l:List Int):(first l).length=l.length:=by
 unfold first;have:=EF l l.length;rw[Qp,List.length_drop,Ql];omega
theorem kQ (l:List Int) (x:Int):x∈first l↔x∈l:=by
 unfold first;rw[Qe,or_comm,<-Qe,Qg]
end Plain
theorem gV.row {w:World} {B:Nat} {v:Value} {l:List Int} (h:aj w B v l):gV v:=by
 rcases h.1.2 with ⟨rfl,h0⟩ | ⟨g,cap,cur,rfl,_,_,h1,h2,_⟩
 ·exact⟨_,_,_,rfl,Qt _,by decide⟩
 exact⟨_,_,_,rfl,h1,by unfold maxLen at h2;omega⟩
theorem bj.Ws {w:World} {B:Nat} {ov:Value} {vs:List Value} {ll:List (List Int)} (h:bj w B ov vs ll) (hi:∀ l∈ll,(∀ x∈l,aU x)/\l.length<4294967296) (hn:ll.length<=9223372036854775807):cf w ov ll:=by
 obtain⟨ao,cap,e⟩:=bk h.out;have hl:=h.len;refine⟨ao,cap,by rw[e,hl],hn,fun i xA=>?_⟩;have Iv:i<vs.length:=by omega
 obtain⟨g,c,e2⟩:=cD h.out (by omega);have hm:ll.getD i []∈ll:=by simp[Qb,xA]
 have hr:aj w B (vs.getD i undef) (ll.getD i []):=⟨h.rows i Iv,(hi _ hm).1,(hi _ hm).2⟩;rw[e] at e2;simp only[Qc.injEq] at e2;obtain⟨rfl,-,-⟩:=e2;refine⟨g,0,vs.getD i undef,rfl,?_,gV.row hr,hr.ints⟩;have hc:=h.out.cells (g:=g) (by rw[e];rfl) i (vs.getD i undef) (by simp[Qb,Iv]);have iu:(⟨g,0,none⟩:Addr).add i=⟨g,0+i,none⟩:=by unfold Addr.add;split <;> simp_all
 rwa[iu] at hc
theorem bJ {w:World} {b:Nat} {cs:Array Value} {t:TypeId} (h:w.heap[b]?=some (.cells cs t (0,0))) (i:Nat):w.frozen? ⟨b,i,none⟩=false:=by
 simp[World.frozen?,h]
theorem jA {w:World} {B:Nat} {v:Value} {n:Nat} {xs:List Value} {e t:TypeId} {sz b:Nat} {cs:Array Value} {r:Nat × Nat} (h:w.ownsRow B e sz v n xs) (hb:w.heap[b]?=some (.cells cs t r)) (he:e≠t):v.ownBlock≠some b:=by
 rcases h.2 with ⟨rfl,_⟩ | ⟨g,cap,cur,rfl,_,hg,_⟩
 ·simp[Qf]
 intro e1;simp[Qf] at e1;subst e1;rw[hg] at hb;simp at hb;exact he hb.2.1
theorem vS {w:World} {B:Nat} {v:Value} {n:Nat} {xs:List Value} {e:TypeId} {sz b m:Nat} {f:Int->Option Int} (h:w.ownsRow B e sz v n xs) (hb:bK w b m f):v.ownBlock≠some b:=by
 rcases h.2 with ⟨rfl,_⟩ | ⟨g,cap,cur,rfl,_,hg,_⟩
 ·simp[Qf]
 intro e1;simp[Qf] at e1;exact hb.ne hg e1
structure ue (w0 w:World) (vd:Value) (lb:Nat) (R:List (List Int)) (pl:Int->Option Int) (N:Nat):Prop where
 obj:∃ tv vs,w.heap[w0.heap.size+1]?=some (.cells #[tv,.map (some lb),.map (some w0.heap.size),vd] 201 (0,0))/\bj w w0.heap.size tv vs R
 place:bK w w0.heap.size N pl
 ch:ag [] w0 w
theorem ue.row {w0 w w':World} {vd v:Value} {lb g cap N n B c:Nat} {PX:Option Addr} {R:List (List Int)} {pl:Int->Option Int} {l:List Int} {vs:List Value} (h1:w.heap[w0.heap.size+1]?=some (.cells #[.slice PX n c,.map (some lb),.map (some w0.heap.size),vd] 201 (0,0))) (h2:bj w w0.heap.size (.slice PX n c) vs R) (h3:bK w w0.heap.size N pl) (h4:ag [] w0 w) (hB:w0.heap.size<=B)
  (hv:aj w B v l) (fX:∀ k b,k<vs.length->(vs.getD k undef).ownBlock=some b->b<B) (hn:w'.ownsRow w0.heap.size 25 1 (.slice (some ⟨g,0,none⟩) (vs.length+1) cap) (vs.length+1) (vs++[v])) (hc:ag (Qc PX n c).ownBlock.toList w w') :
  ue w0 (w'.setCell ⟨w0.heap.size+1,0,none⟩ (.slice (some ⟨g,0,none⟩) (vs.length+1) cap)) vd lb (R++[l]) pl N:=by
 have oe:=jA h2.out h1 (by decide);have WO:(Qc PX n c).ownBlock≠some w0.heap.size:=vS h2.out h3;have AD:=hc.heap h1 (by simpa using oe);have iu:=h2.add (jm hv.1 hB) (fun k b hk hb e=>by have:=fX k b hk hb;have:=(hv.low b (by rw[e];simp)).1;omega) hn hc;have aZ:ag [w0.heap.size+1] w' (w'.setCell ⟨w0.heap.size+1,0,none⟩ (.slice (some ⟨g,0,none⟩) (vs.length+1) cap)):=(ag.refl _ _).setCell (Qz (by simp)) _;refine⟨⟨_,_,heap_setCell_same AD 0 _,iu.aD aZ (fun b hb e=>?_) (fun k b hk hb e=>?_)⟩,(h3.aD hc (by simpa using WO)).aD aZ (by simp),(h4.trans hc (fun j hj=>QA ?_)).trans aZ (fun j hj=>QA (by simp at hj;omega))⟩
 ·simp at e;subst e
  exact jA iu.out AD (by decide) hb
 ·simp at e;subst e
  exact jA (iu.rows k hk) AD (by decide) hb
 exact (h2.out.lt j (by simpa using hj)).1
set_option maxRecDepth 100000 in
set_option maxHeartbeats 1000000 in
theorem Ou (vt vd:Value) (T:List (List Int)) (lv:Int->Option Int) (ds:List Int) (lb n:Nat) (w:World) (DK:T.length<2147483648) (hS:Plain.bU T T.length<2147483648) (ht:cf w vt T) (hl:gP w lb n lv) (hd:al w vd ds) :
  Calls Tryz.prog 185 #[vt,.map (some lb),vd] w fun e w'=>∃ O0,e=.returned (.pointer (some ⟨w.heap.size+1,0,none⟩))/\nf w' (w.heap.size+1) (T.map Plain.first) lv (Plain.places T T.length) ds O0 vd lb w.heap.size n (Plain.bU T T.length)/\ag [] w w':=by
 have HT:=lh ht;have fZ:=lh hS;have HN:=lh hl;have HD:=lh hd;obtain⟨Ub,Bv,rfl,-,-,-⟩:=hd;obtain⟨PX,tc,rfl,-,wY⟩:=ht;have Pb:=lh wY;have Dx:=lh hl.lt;have C0:=lh (((ag.refl [] w).alloc (.map #[] 0)).alloc (.cells #[.slice none 0 0,.map (some lb),.map (some w.heap.size),.slice Ub ds.length Bv] 201));have HT0:=lh (show ue w ((w.alloc (.map #[] 0)).alloc (.cells #[.slice none 0 0,.map (some lb),.map (some w.heap.size),.slice Ub ds.length Bv] 201)) (.slice Ub ds.length Bv) lb [] (Plain.places T 0) 0 from
  ⟨⟨_,[],by simpa using heap_alloc_new (w.alloc (.map #[] 0)) (.cells #[.slice none 0 0,.map (some lb),.map (some w.heap.size),.slice Ub ds.length Bv] 201),bj.nil _ _⟩,(bK.made w).alloc _,C0.out⟩)
 clear wY hl hS
 go_enter Tryz.func185,Tryz.ntmps185
 have mY:=fun n w=>fG Tryz.underlying124 n w;have qG:=HN.out.len;go_wp2;clear mY qG;have wJ:w.heap.size+2=((w.alloc (.map #[] 0)).alloc (.cells #[.slice none 0 0,.map (some lb),.map (some w.heap.size),.slice Ub ds.length Bv] 201)).heap.size:=by simp
 have pj:=lh wJ;generalize qK:((w.alloc (.map #[] 0)).alloc (.cells #[.slice none 0 0,.map (some lb),.map (some w.heap.size),.slice Ub ds.length Bv] 201))=w1 at *;clear qK wJ
 go_loopw [22] (fun c wr=>∃ k:Nat,k<=T.length/\c=.int .i64 k/\ue w wr (.slice Ub ds.length Bv) lb ((T.take k).map Plain.first) (Plain.places T k) (Plain.bU T k)) (fun c _=>T.length - (intOf c).toNat)
 case atStart=>exact⟨0,Qm _,rfl,HT0.out⟩
 case round =>
  obtain⟨k,hk,rfl,hrel⟩:=hrel;have HR:=lh hrel;by_cases aL:k<T.length
  ·obtain⟨tb,IB,u,rfl,hu,iD,hints⟩:=Pb.out k aL
   have ck:=hrel.ch.c hu;have ku:=lh (hints.fresh hrel.ch);obtain⟨uo,uc,rfl,dK,BO,-⟩:=hints;obtain⟨⟨tv,vs,hb,gG⟩,hm,dV⟩:=hrel;obtain⟨tvo,tvc,rfl⟩:=bk gG.out;have tV:=lh (show ∀ k b,k<vs.length->(vs.getD k undef).ownBlock=some b->b<wr.heap.size from fun k b hk hb=>((gG.rows k hk).lt b hb).2);have HB:=lh hb;have lQ:=lh gG;have HMM:=lh hm;have FC:=lh dV;have vH:=lh (show vs.length=k by rw[gG.len,Qv,Ql];omega);have DD:=lh aL;have Nc:Plain.bU T (k+1)=Plain.bU T k+(T.getD k []).length:=rfl;have Fg:=Plain.iG T (show k+1<=T.length from aL);have hkS:=fZ.out;have HL:=lh (Plain.lg (T.getD k []));have HI:=lh (show ∀ x∈Plain.first (T.getD k []),aU x from fun x hx=>dK x ((Plain.kQ _ x).1 hx));have ki:=lh (show (T.getD k []).length<2147483648 by omega);have Pe:=lh (show Plain.places T (k+1)=Plain.fB (Plain.places T k) (Plain.first (T.getD k [])) (Plain.first (T.getD k [])).length from rfl);have nL:=lh (show (T.take (k+1)).map Plain.first=(T.take k).map Plain.first++[Plain.first (T.getD k [])] by rw[Qa aL,List.map_append];simp[Qb,aL]);have Gp:=lh (show Plain.bU T (k+1)=Plain.bU T k+(Plain.first (T.getD k [])).length by rw[HL.out];rfl);have Tt:=lh (show Plain.bU T k+(Plain.first (T.getD k [])).length<2147483648 by rw[HL.out];omega);have HBW:=lh (show w.heap.size<=wr.heap.size from dV.size);clear dK BO hu Nc Fg hkS hb gG hm dV aL;generalize T.getD k []=l at *
   go_wp2_with fail
   refine (JI _ l _ ki.out iD ku.out).mono ?_;rintro e w2 ⟨v',rfl,aJ,bA⟩;have Ak:=lh (bA.heap HB.out (by simp));have KE:=lh (lQ.out.aD bA (by simp) (by simp));have mr:=lh (HMM.out.aD bA (by simp));have cB:=lh (FC.out.t bA);have bt:=lh aJ;obtain⟨ro,rc,rfl⟩:=aJ.shape;have UW:=lh aJ.ints;clear iD aJ bA ck;generalize Plain.first l=L at *;clear HL ku ki;have VN:L.length<2147483648:=by have:=Tt.out;omega
   go_wp2
   go_loopw [30] (fun c wi=>∃ j:Nat,j<=L.length/\c=.int .i64 j/\bK wi w.heap.size (Plain.bU T k+j) (Plain.fB (Plain.places T k) L j)/\ag [w.heap.size] w2 wi) (fun c _=>L.length - (intOf c).toNat)
   case atStart=>exact⟨0,Qm _,rfl,mr.out,ag.refl _ _⟩
   case round =>
    obtain⟨j,hj,rfl,hm,dV⟩:=hrel;have HM:=lh hm;have DE:=lh dV;by_cases mT:j<L.length
    ·obtain⟨lo,apW,hle,-,-,hlc⟩:=UW.out
     simp only[Qc.injEq] at hle;obtain⟨rfl,-,rfl⟩:=hle;obtain⟨rb,iR,rfl,AF⟩:=hlc (by intro e;rw[e] at mT;simp at mT);have cj:=dV.cell (AF j mT) (by intro e;obtain⟨cs,r,hh⟩:=bR bt.out rb (by simp[aE,Qf]);exact mr.out.ne hh (by simpa using e));have c0:=(cell_of_row _ _ 2 _ _ _ (dV.heap Ak.out (by simp))).trans (show _=some (Qy (some w.heap.size)) from rfl);have IJ:aU (j:Int):=aU.mk (by omega) (by have:=Tt.out;omega);have IX:=HI.out (L.getD j 0) (by simp[Qb,mT]);have HPJ:=lh (show Plain.fB (Plain.places T k) L (j+1)=fun y=>if y=L.getD j 0 then some (j:Int) else Plain.fB (Plain.places T k) L j y from rfl);have TV:Plain.bU T k+j<maxLen:=by have:=Tt.out;unfold maxLen;omega
     clear AF hlc hm dV;generalize L.getD j 0=x at *
     go_wp2_with (at_mapUpdate;refine gF _ rfl _ _ _ rfl HM.out TV rfl IX IJ rfl rfl ?_;intro w3 m3 g3;have M3:=lh m3;have G3:=lh g3;clear m3 g3)
     go_roundw
     case rel=>exact⟨j+1,by omega,by go_num,by rw[HPJ.out];exact M3.out,DE.out.grown G3.out (fun j hj=>by cases hj;exact Qz (by simp))⟩
     case measure=>simp[intOf];omega
    have e:j=L.length:=by omega
    subst e;have Ld:=lh (dV.heap Ak.out (by simp));have Ai:=lh (KE.out.aD dV (fun b hb e=>by simp at e;subst e;exact vS KE.out.out mr.out hb) (fun k b hk hb e=>by simp at e;subst e;exact vS (KE.out.rows k hk) mr.out hb));have abp:=lh (bt.out.aD dV (fun b hb e=>by obtain⟨cs,r,hh⟩:=bR bt.out b (by rw[bt.out.aE];exact hb);exact mr.out.ne hh (by simpa using e)));have cU:=lh (cB.out.trans dV (fun j hj=>QA (by simp at hj;omega)));have c0:=(cell_of_row _ _ 0 _ _ _ (dV.heap Ak.out (by simp))).trans (show _=some (Qc tvo vs.length tvc) from rfl);have sM:vs.length<68719476736:=by have:=vH.out;have:=DD.out;have:=DK;omega
    have LN:=lh (show w.heap.size<=wr.heap.size from cU.out.size);have HNO:=lh (show w.heap.size+1 ∉ (Qc tvo vs.length tvc).ownBlock.toList from fun e=>jA Ai.out.out Ld.out (by decide) (by simpa using e));clear hm dV
    go_wp2_with (at_builtin;refine oK ji rfl (.tmp 46) (.tmp 48) rfl (v:=.slice tvo vs.length tvc) rfl rfl rfl Ai.out.out LN.out rfl (pC _ _ _) sM ?_;intro g cap w4 r4 c4 l4;have R4:=lh r4;have C4:=lh c4;have b4:=c4.heap Ld.out HNO.out;have s4:=(cell_of_row _ _ 0 _ _ _ b4).trans (show _=some (Qc tvo vs.length tvc) from rfl);have z4:w4.frozen? ⟨w.heap.size+1,0,none⟩=false:=bJ b4 0;clear r4 c4 l4 b4)
    have HT5:=lh (Ld.out);have Yo:=lh (ue.row Ld.out Ai.out HM.out cU.out HBW.out abp.out tV.out R4.out C4.out);rw[<-nL.out,<-Gp.out,<-Pe.out] at Yo
    go_roundw
    case rel=>exact⟨k+1,by have:=DD.out;omega,by go_num,Yo.out⟩
    case measure=>have:=DD.out;simp[intOf];omega
  have e:k=T.length:=by omega
  subst e;clear hrel;have vf:=lh (show ∃ O0,nf wr (w.heap.size+1) (T.map Plain.first) lv (Plain.places T T.length) ds O0 (.slice Ub ds.length Bv) lb w.heap.size n (Plain.bU T T.length) by
   obtain⟨⟨tv,vs,hb,gG⟩,hm,dV⟩:=HR.out;rw[Qh] at gG;refine⟨tv,hb,gG.Ws (fun l hl=>?_) (by rw[Qv];omega),HN.out.Dc.aD dV (by simp),hm,HD.out.fresh dV⟩;obtain⟨q,hq,rfl⟩:=List.mem_map.1 hl;obtain⟨i,hi,e⟩:=Qd hq;have hqi:T.getD i []=q:=by simp[Qb,hi,e]
   obtain⟨_,_,u,_,_,_,hints⟩:=Pb.out i hi;rw[hqi] at hints;obtain⟨_,_,_,dK,_,_⟩:=hints;have h1:Plain.bU T (i+1)=Plain.bU T i+(T.getD i []).length:=rfl;have h2:=Plain.iG T (show i+1<=T.length from hi);have h3:=fZ.out;rw[hqi] at h1;exact⟨fun x hx=>dK x ((Plain.kQ _ x).1 hx),by rw[Plain.lg];omega⟩)
  have qh:=lh (HR.out.ch);go_wp2;go_ret;obtain⟨O0,h⟩:=vf.out;exact⟨O0,rfl,h,qh.out⟩
end Go.Proofs.YtoiflofhcmjpoaaGreat
namespace Go.Proofs.YtoiflofhcmjpoaaGreat.Plain
theorem bS:∀ {l m:List Int},l.Nodup->(∀ x∈l,x∈m)->l.length<=m.length
 | [],_,_,_=>Qm _
 | x :: l,m,h,hs=>by
  rw[Qw] at h;obtain⟨a,b,rfl⟩:=List.append_of_mem (hs x (by simp));have h2:=bS h.2 (m:=a++b) (fun y hy=>by
   have h3:=hs y (by simp[hy]);have h4:y≠x:=fun e=>h.1 (e ▸ hy);simp only[Qe,Qo] at h3 ⊢;rcases h3 with q | q | q
   ·exact Qz q
   ·exact absurd q h4
   exact QA q)
  simp only[Qp,Qr] at h2 ⊢;omega
def seen (aa:List (List Int)) (k j:Nat):List Int:=(aa.take k).flatten++(aa.getD k []).take j
theorem kT {l:List Int} {j:Nat} (hj:j<l.length):l.take (j+1)=l.take j++[l.getD j 0]:=by
 rw[Qa hj]
 grind
theorem eK {L:List (List Int)}:L.flatten.Nodup↔(∀ l∈L,l.Nodup)/\L.Pairwise fun a b=>∀ x∈a,∀ y∈b,x≠y:=by grind
theorem q9 (aa:List (List Int)):seen aa 0 0=[]:=by simp[seen]
theorem rN {aa:List (List Int)} {k j:Nat} (hj:j<(aa.getD k []).length):seen aa k (j+1)=seen aa k j++[(aa.getD k []).getD j 0]:=by
 unfold seen;rw[Qj,kT hj]
theorem BF {aa:List (List Int)} {k:Nat} (hk:k<aa.length):seen aa (k+1) 0=seen aa k (aa.getD k []).length:=by
 unfold seen;rw[Qa hk,List.take_zero,List.append_nil,Qn,Qh];simp[Qb,hk]
theorem AU (aa:List (List Int)):seen aa aa.length 0=aa.flatten:=by simp[seen]
structure Good (g:Gr) (p:Pt) (aa:List (List Int)) (k j:Nat):Prop where
 nodup:(seen aa k j).Nodup
 rows:∀ i,i<k->∀ d∈aa.getD i [],d∈p.ah/\g.tail d=(i:Int)
 last:∀ d∈(aa.getD k []).take j,d∈p.ah/\g.tail d=(k:Int)
theorem Good.start (g:Gr) (p:Pt) (aa:List (List Int)):Good g p aa 0 0:=⟨by rw[q9];exact List.nodup_nil,fun i hi=>by omega,by simp⟩
theorem Good.next {g:Gr} {p:Pt} {aa:List (List Int)} {k j:Nat} (h:Good g p aa k j) (hj:j<(aa.getD k []).length) (hd:(aa.getD k []).getD j 0∈p.ah) (ht:g.tail ((aa.getD k []).getD j 0)=(k:Int)) (hn:(aa.getD k []).getD j 0 ∉ seen aa k j):Good g p aa k (j+1):=by
 refine⟨?_,h.rows,fun d PK=>?_⟩
 ·rw[rN hj,Qk]
  exact⟨h.nodup,by simp,fun a ha b hb e=>by simp at hb;subst hb;subst e;exact hn ha⟩
 rw[kT hj,Qe] at PK;rcases PK with q | q
 ·exact h.last d q
 have e:d=(aa.getD k []).getD j 0:=List.mem_singleton.1 q;rw[e];exact⟨hd,ht⟩
theorem Good.row {g:Gr} {p:Pt} {aa:List (List Int)} {k:Nat} (h:Good g p aa k (aa.getD k []).length) (hk:k<aa.length):Good g p aa (k+1) 0:=by
 refine⟨by rw[BF hk];exact h.nodup,fun i hi d hd=>?_,by simp⟩;by_cases e:i<k
 ·exact h.rows i e d hd
 obtain rfl:i=k:=by omega
 exact h.last d (by rw[Qh];exact hd)
theorem L6 {aa:List (List Int)} {v:Nat} {d:Int} (h:d∈aa.getD v []):d∈aa.flatten:=by
 by_cases hv:v<aa.length
 ·refine Qs.2 ⟨aa.getD v [],?_,h⟩
  simp[Qb,hv]
 simp[Qb,Qx.1 hv] at h
theorem mV {aa:List (List Int)} {d:Int} (h:d∈aa.flatten):∃ v,v<aa.length/\d∈aa.getD v []:=by
 obtain⟨l,hl,hd⟩:=Qs.1 h;obtain⟨i,hi,rfl⟩:=Qd hl;exact⟨i,hi,by simpa[Qb,hi] using hd⟩
theorem Good.turns {g:Gr} {p:Pt} {aa:List (List Int)} (_hp:aB g p) (hn:(aa.length:Int)=g.n) (h:Good g p aa aa.length 0) (hl:aa.flatten.length=2*p.e.length):aR g p aa:=by
 have gS:aa.flatten.Nodup:=by have:=h.nodup;rwa[AU] at this
 have nK:∀ d∈aa.flatten,d∈p.ah:=fun d hd=>by
  obtain⟨v,hv,hd⟩:=mV hd;exact (h.rows v hv d hd).1
 have ajx:∀ d∈p.ah,d∈aa.flatten:=fun d hd=>by
  refine Classical.byContradiction fun oe=>?_;have:=bS (l:=d :: aa.flatten) (m:=p.ah) (by rw[Qw];exact⟨oe,gS⟩) (fun x hx=>by
   rcases Qo.1 hx with q | q
   ·rw[q];exact hd
   exact nK x q)
  rw[Qr,bL] at this;omega
 refine⟨hn,fun v=>?_,fun v hv0 hv1 d=>⟨fun hd=>?_,fun hd=>?_⟩⟩
 ·unfold az
  by_cases hv:v.toNat<aa.length
  ·have:aa.getD v.toNat []∈aa:=by simp[Qb,hv]
   exact (eK.1 gS).1 _ this
  simp[Qb,Qx.1 hv]
 ·have:=h.rows v.toNat (by omega) d hd
  refine⟨this.1,by omega⟩
 obtain⟨u,hu,hdu⟩:=mV (ajx d hd.1);have:=(h.rows u hu d hdu).2;have e:u=v.toNat:=by omega
 subst e;exact hdu
theorem aR.row {g:Gr} {p:Pt} {aa:List (List Int)} (h:aR g p aa) {i:Nat} (hi:i<aa.length) {d:Int} (hd:d∈aa.getD i []):d∈p.ah/\g.tail d=(i:Int):=by
 have:=(h.mem (i:Int) (by omega) (by have:=h.len;omega) d).1 (by unfold az;simpa using hd);exact this
theorem aR.tD {g:Gr} {p:Pt} {aa:List (List Int)} (h:aR g p aa):aa.flatten.Nodup:=by
 rw[eK];refine⟨fun l hl=>?_,?_⟩
 ·obtain⟨i,hi,rfl⟩:=Qd hl
  have:=h.nodup (i:Int);unfold az at this;simpa[Qb,hi] using this
 rw[Qi];intro i j hi hj DC x hx y hy e;subst e;have h1:=(h.row hi (d:=x) (by simpa[Qb,hi] using hx)).2;have h2:=(h.row hj (d:=x) (by simpa[Qb,hj] using hy)).2;omega
theorem aR.Ox {g:Gr} {p:Pt} {aa:List (List Int)} (hp:aB g p) (h:aR g p aa):aa.flatten.length=2*p.e.length:=by
 rw[<-bL];refine Qu (bS h.tD fun d hd=>?_) (bS (dz hp.en) fun d hd=>?_)
 ·obtain⟨v,hv,hd⟩:=mV hd
  exact (h.row hv hd).1
 have hv:=hp.vr _ (hp.aO hd).1;have h1:d∈az aa (g.tail d):=(h.mem (g.tail d) hv.1 hv.2 d).2 ⟨hd,rfl⟩;exact L6 h1
theorem MC (aa:List (List Int)) (k j:Nat):∃ r,aa.flatten=seen aa k j++r:=by
 by_cases hk:k<aa.length
 ·refine⟨(aa.getD k []).drop j++(aa.drop (k+1)).flatten,?_⟩
  have e:aa=aa.take k++aa.getD k [] :: aa.drop (k+1):=by
   have:aa.getD k []=aa[k]:=by simp[Qb,hk]
   rw[this,List.getElem_cons_drop,Qg]
  conv=>lhs;rw[e]
  unfold seen;rw[Qn,List.flatten_cons,Qj,<-Qj ((aa.getD k []).take j),Qg]
 refine⟨[],?_⟩;unfold seen;rw[List.take_of_length_le (by omega)];simp[Qb,Qx.1 hk]
theorem aR.once {g:Gr} {p:Pt} {aa:List (List Int)} (h:aR g p aa) {k j:Nat} (hj:j<(aa.getD k []).length):(aa.getD k []).getD j 0 ∉ seen aa k j:=by
 intro hm;obtain⟨r,hr⟩:=MC aa k (j+1);have hn:=h.tD;rw[hr,rN hj,Qk] at hn;have:=hn.1;rw[Qk] at this;exact this.2.2 _ hm _ (by simp) rfl
open Classical in
noncomputable def bB (g:Gr) (p:Pt) (aa:List (List Int)):Int:=if p.err g≠0 then p.err g else if aR g p aa then 0 else 5
theorem pY {g:Gr} {p:Pt} {aa:List (List Int)} (h:p.err g≠0):bB g p aa=p.err g:=if_pos h
theorem gq {g:Gr} {p:Pt} {aa:List (List Int)} (h:p.err g=0) (ht:¬ aR g p aa):bB g p aa=5:=by
 grind [bB]
theorem EK {g:Gr} {p:Pt} {aa:List (List Int)} (h:p.err g=0) (ht:aR g p aa):bB g p aa=0:=by
 grind [bB]
theorem dQ {g:Gr} {p:Pt} {aa:List (List Int)} (h:bB g p aa=0):p.err g=0/\aR g p aa:=by
 all_goals grind [gq,pY]
def cF (g:Gr) (p:Pt) (k:Nat):Int->Option Int:=fun d=>if d∈Pt.ah ⟨[],p.e.take k⟩ then some (g.tail d) else none
theorem tE {p:Pt} {k:Nat} (hk:k<p.e.length):Pt.ah ⟨[],p.e.take (k+1)⟩=Pt.ah ⟨[],p.e.take k⟩++[2*p.e.getD k 0,2*p.e.getD k 0+1]:=by
 unfold Pt.ah;rw[Qa hk,List.flatMap_append];simp[Qb,hk]
theorem wQ (g:Gr) (p:Pt):cF g p 0=fun _=>none:=by funext d;simp[cF,Pt.ah]
theorem qA (g:Gr) (p:Pt):cF g p p.e.length=fun d=>if d∈p.ah then some (g.tail d) else none:=by
 funext d;unfold cF;rw[Qh];rfl
theorem xt {g:Gr} {p:Pt} {k e:Nat} (hk:k<p.e.length) (he:p.e.getD k 0=(e:Int)) :
  cF g p (k+1)=fun y=>if y=2*(e:Int)+1 then some (g.ends e).2 else if y=2*(e:Int) then some (g.ends e).1 else cF g p k y:=by
 funext y
 unfold cF;rw[tE hk,he];have t0:g.tail (2*(e:Int))=(g.ends e).1:=by unfold Gr.tail Gr.at;rw[if_pos (by omega)];congr 2;omega
 have t1:g.tail (2*(e:Int)+1)=(g.ends e).2:=by unfold Gr.tail Gr.at;rw[if_neg (by omega)];congr 2;omega
 simp only[Qe,Qo,List.not_mem_nil,or_false];by_cases h1:y=2*(e:Int)+1
 ·subst h1;simp[t1]
 by_cases h2:y=2*(e:Int)
 ·subst h2;rw[if_neg h1,if_pos rfl,t0,if_pos (by simp)]
 simp[h1,h2]
theorem ql {g:Gr} {p:Pt} (hp:p.e.Pairwise (·<·)) {k:Nat} (hk:k<p.e.length) {d:Int} (hd:d / 2=p.e.getD k 0):cF g p k d=none:=by
 unfold cF;refine if_neg fun h=>?_;rw[aw,hd] at h;obtain⟨i,hi,e⟩:=Qd h;rw[Ql] at hi;rw[List.getElem_take] at e;have:=Qi.1 hp i k (by omega) hk (by omega);rw[e] at this;simp[Qb,hk] at this
end Go.Proofs.YtoiflofhcmjpoaaGreat.Plain
