/- package sets: contracts of New and of the laws' own example. Conditions: a list of fewer than 2^32 ints. -/
import Derived.Test.YtkacjmoamgjfpaaGreatHxSetsC
import Derived.Test.YtkacjmoamgjfpaaGreatHxRow
namespace Go.Proofs.YtkacjmoamgjfpaaGreat
open Go.RowKit Go.Maps
theorem SetsObj.empty (w:World):SetsObj ((w.alloc (.map #[] 0)).alloc (.cells #[.map (some w.heap.size),.slice none 0 0,.slice none 0 0,.int .i64 0] 162)) (w.heap.size+1) [w.heap.size+1,w.heap.size] ⟨[],[]⟩:=by
 refine⟨w.heap.size,.slice none 0 0,.slice none 0 0,[],⟨?_,?_,World.ownsRow_nil _ _ _ _,World.ownsRow_nil _ _ _ _,Or.inl rfl,⟨rfl,by simp⟩,rfl,by simp,by simp⟩,rfl⟩
 ·have:=heap_alloc_new (w.alloc (.map #[] 0)) (.cells #[.map (some w.heap.size),.slice none 0 0,.slice none 0 0,.int .i64 0] 162)
  have e:(w.alloc (.map #[] 0)).heap.size=w.heap.size+1:=by simp
  rw[e] at this
  exact this
 have:(pos ([]:List Int))=fun _=>none:=by funext x;simp[pos]
 simp only[List.length_nil]
 rw[this]
 exact (IMap.made w).alloc _
def St.new (l:List Int):St:=l.foldl St.put ⟨[],[]⟩
theorem St.new_take {l:List Int} {k:Nat} (h:k<l.length):St.new (l.take (k+1))=(St.new (l.take k)).put (l.getD k 0):=by
 unfold St.new
 rw[List.take_succ_eq_append_getElem h,List.foldl_append]
 simp[List.getD,h]
theorem St.new_len (l:List Int):(St.new l).all.length≤l.length:=by
 have:∀ (l:List Int) (s:St),(l.foldl St.put s).all.length≤s.all.length+l.length:=by
  intro l
  induction l with
  | nil=>intro s;simp
  | cons x r ih =>
   intro s
   have:=ih (s.put x)
   have:=(s.len_put x).2
   simp only[List.foldl_cons,List.length_cons]
   omega
 simpa[St.new] using this l ⟨[],[]⟩
theorem new_any (v:Value) (l:List Int) (w:World) (hn:l.length<4294967296) (h:IntsAt w v l) :
  Calls Tryz.prog 67 #[v] w fun e w'=>∃ pb own,e=.returned (.pointer (some ⟨pb,0,none⟩))∧SetsObj w' pb own (St.new l)∧Chg [] w w'∧∀ j∈own,w.heap.size≤j:=by
 obtain⟨ao,cap,rfl,hsm,-,hcell⟩:=h
 have hmm:=@run_makeMap Tryz.prog
 have HE:=lh (SetsObj.empty w)
 go_enter Tryz.func67,Tryz.ntmps67
 go_wp2
 go_loopw [11] (fun c wr=>∃ k:Nat,k≤l.length∧c=.int .i64 k∧∃ own,SetsObj wr (w.heap.size+1) own (St.new (l.take k))∧Chg [] w wr∧∀ j∈own,w.heap.size≤j) (fun c _=>l.length - (intOf c).toNat)
 case atStart=>exact⟨0,Nat.zero_le _,rfl,_,HE.out,((Chg.refl _ _).alloc _).alloc _,by simp⟩
 case round =>
  obtain⟨k,hk,rfl,own,hobj,hch,hown⟩:=hrel
  by_cases hlt:k<l.length
  ·obtain⟨b,off,rfl,hc⟩:=hcell (by intro e;rw[e] at hlt;simp at hlt)
   have ck:=hch.cell (hc k hlt) (by simp)
   have hx:=hsm (l.getD k 0) (by simp[List.getD,hlt])
   have hl:=St.new_len (l.take k)
   have hl2:(l.take k).length≤k:=List.length_take_le _ _
   have HX:=lh (St.new_take hlt)
   have HS:=lh hsm
   have HC:=lh hc
   clear hcell hc hsm
   generalize l.getD k 0=x at *
   go_wp2_with fail
   refine (add_any _ own _ x _ hx (by omega) hobj).mono ?_
   rintro e w2 ⟨rfl,own2,ho2,hc2,hs2⟩
   have HO2:=lh ho2
   have hch2:=hch.trans hc2 (fun j hj=>Or.inr (hown j hj))
   have hsz:=hch.size
   have hown2:∀ j∈own2,w.heap.size≤j:=fun j hj=>by rcases hs2 j hj with q | q;exact hown j q;omega
   clear hobj hch hown ho2 hc2 hs2 ck
   go_wp2
   go_roundw
   case rel=>exact⟨k+1,by omega,by go_num,own2,by rw[HX.out];exact HO2.out,hch2,hown2⟩
   case measure=>simp[intOf];omega
  have e:k=l.length:=by omega
  subst e
  have HO:=lh hobj
  clear hobj
  go_wp2
  go_ret
  exact⟨_,own,rfl,by simpa using HO.out,hch,hown⟩
def NMap (w:World) (b n:Nat) (f:Int→Option Int):Prop :=
 ∃ D:DataW Unit,w.ownsMap Tryz.prog 3 (plainElem Tryz.prog 3) b n D∧Maps.size D=n ∧
  ∀ x,I64 x→Maps.has D (.int .i64 x)=(f x).isSome∧D.atKey (.int .i64 x) (.lit (.int .i64 0))=.lit (.int .i64 ((f x).getD 0))
theorem NMap.imap {w:World} {b n:Nat} {f:Int→Option Int} (h:NMap w b n f):IMap w b n f:=by obtain⟨D,h1,_,h2⟩:=h;exact⟨D,h1,h2⟩
theorem NMap.made (w:World):NMap (w.alloc (.map #[] 0)) w.heap.size 0 (fun _=>none) :=
 ⟨.map [],World.ownsMap_made _ _ _ _,rfl,fun _ _=>⟨rfl,rfl⟩⟩
theorem NMap.chg {w w':World} {own:List Nat} {b n:Nat} {f:Int→Option Int} (h:NMap w b n f) (hc:Chg own w w') (hb:b ∉ own):NMap w' b n f:=by
 obtain⟨D,⟨es,clock,he,r⟩,g⟩:=h
 exact⟨D,⟨es,clock,hc.heap he hb,r⟩,g⟩
theorem NMap.lt {w:World} {b n:Nat} {f:Int→Option Int} (h:NMap w b n f):b<w.heap.size:=h.imap.lt
theorem run_makeMap_hint {t k e:TypeId} (ht:Tryz.prog.underlying t=some (.map k e)) (n:Int) (w:World):(Instr.makeMap t (some (.int .i64 n))).run Tryz.prog w=.ok (.map (some w.heap.size)) (w.alloc (.map #[] 0)):=by
 simp[Instr.makeMap,run_underlying ht,asInt,asIntOf,Result.andThen]
theorem notFound {P:Program} {k:TypeId} (K:Keyed P k) {R:Value→Option (DataW Unit × List MemPlace)} {es:Array MapEntry} {clock:Nat} (F:WideElems.Fit P k R es clock) {key:Value} {kl:Lit} (hkey:keyOf P k key=some kl)
  (hh:Maps.has (.map ((es.toList.map (WideElems.rg P k R)).foldr DataW.insert [])) kl=false) (w:World):(Instr.findKey k key es.toList).run P w=.ok none w∧∀ e∈es.toList,e.key≠key:=by
 rcases K.find w hkey es.toList F.keys with h | ⟨j,e0,h1,h2,h3⟩
 ·exact h
 exfalso
 have hf:=filter_one K F hkey h2 h3
 have hj:j<es.toList.length:=(List.getElem?_eq_some_iff.1 h2).1
 rw[has_eq] at hh
 have hp:=Go.WideShapes.sorted_perm (es.toList.map (WideElems.rg P k R))
 have h0:∀ p∈es.toList.map (WideElems.rg P k R),p.1.sameKey kl=false:=fun p hp'=>by
  have:=List.any_eq_false.1 hh p (hp.mem_iff.2 hp')
  simpa using this
 have e1:(es.toList.map (WideElems.rg P k R)).filter (ChangeMaps.notKey kl)=es.toList.map (WideElems.rg P k R):=List.filter_eq_self.2 fun p hp'=>by
  unfold ChangeMaps.notKey
  rw[h0 p hp']
  rfl
 rw[e1] at hf
 have:=congrArg List.length hf
 rw[List.length_eraseIdx,if_pos (by simpa using hj)] at this
 simp at this hj
 omega
section
variable {w : World} {b n : Nat} {f : Int → Option Int}
theorem NMap.put (h:NMap w b n f) (hn:n<maxLen) {k v:Int} (hk:I64 k) (hv:I64 v) (hf:f k=none) :
  ∃ w2,(Instr.mapUpdate 93 (.map (some b)) (.int .i64 k) (.int .i64 v)).run Tryz.prog w=.ok () w2∧NMap w2 b (n+1) (fun y=>if y=k then some v else f y)∧Chg [b] w w2:=by
 obtain⟨D,ho,hs,hD⟩:=h
 have hkey:=keyOf_int_mk Tryz.underlying3 hk
 obtain⟨w2,h1,h2,h3⟩:=ho.update keyedInt Tryz.underlying93 hn hkey (plainElem_int Tryz.underlying3 hv)
 refine⟨w2,h1,⟨_,h2,?_,fun y hy=>?_⟩,(Chg.refl _ _).grown h3 (fun j hj=>by cases hj;exact Or.inl (by simp))⟩
 ·rw[size_put (ho.tidy keyedInt),(hD k hk).1,hf,hs]
  rfl
 by_cases e:y=k
 ·subst e
  have hkl:=keyedInt.key hkey
  rw[has_put_same ho.isMap hkl,atKey_put_same ho.isMap hkl]
  simp
 rw[has_put_other (litNe e),atKey_put_other (litNe e)]
 simp only[if_neg e]
 exact hD y hy
theorem NMap.entry (h:NMap w b n f) (hn:n<maxLen) {k v:Int} (hk:I64 k) (hv:I64 v) (hf:f k=none) :
  ∃ st w1 w2,(Instr.mapEntry 93 (.map (some b)) (.int .i64 k)).run Tryz.prog w=.ok (.tuple #[.int .i64 0,.int .i64 st]) w1∧Chg [b] w w1 ∧
   (Instr.entryStore 93 (.map (some b)) (.int .i64 st) (.int .i64 v)).run Tryz.prog w1=.ok () w2∧NMap w2 b (n+1) (fun y=>if y=k then some v else f y)∧Chg [b] w w2:=by
 obtain⟨w2,h1,h2,h3⟩:=h.put hn hk hv hf
 obtain⟨D,⟨es,clock,hb,F,hsz,rfl⟩,hs,hD⟩:=h
 have hkey:=keyOf_int_mk Tryz.underlying3 hk
 obtain⟨g1,g2⟩:=notFound keyedInt F hkey (by rw[(hD k hk).1,hf];rfl) w
 have hu:=Tryz.underlying93
 simp only[Instr.mapUpdate,Sem.run_bind,run_underlying hu,MapKept.run_getObj_map hb,keyedInt.check w false hkey,g1,MapKept.run_setObj_map _ hb,Result.andThen] at h1
 have e2:w2=ChangeMaps.setBlock w b (.map (es.push ⟨.int .i64 k,.int .i64 v,clock⟩) (clock+1)):=by
  simp[ChangeMaps.setBlock] at h1 ⊢
  exact h1.symm
 have hb1:=ChangeMaps.heap_setBlock_same hb (.map (es.push ⟨.int .i64 k,.int .i64 0,clock⟩) (clock+1))
 refine⟨clock,ChangeMaps.setBlock w b (.map (es.push ⟨.int .i64 k,.int .i64 0,clock⟩) (clock+1)),w2,?_,⟨rfl,rfl,rfl,by simp[ChangeMaps.setBlock],fun i _ hi=>ChangeMaps.heap_setBlock_other hb _ (fun e=>hi (by simp[e]))⟩,?_,h2,h3⟩
 ·simp[Instr.mapEntry,run_underlying hu,MapKept.run_getObj_map hb,keyedInt.check w false hkey,g1,MapKept.run_setObj_map _ hb,Result.andThen,ChangeMaps.setBlock,goInt]
 have hidx:(es.push ⟨.int .i64 k,.int .i64 0,clock⟩).findIdx? (fun e=>(e.born:Int)==(clock:Int))=some es.size:=by
  rw[Array.findIdx?_eq_some_iff_getElem]
  refine⟨by simp,by simp,fun j hj=>?_⟩
  rw[Array.getElem_push_lt hj]
  have:=F.stamped.1 es[j] (by simp)
  simp
  omega
 have hmod:(es.push ⟨.int .i64 k,.int .i64 0,clock⟩).modify es.size (fun e=>{ e with val:=.int .i64 v })=es.push ⟨.int .i64 k,.int .i64 v,clock⟩:=by
  apply Array.ext
  ·simp
  intro i h1 h2
  simp only[Array.getElem_modify,Array.getElem_push]
  split <;> split <;> simp_all <;> omega
 simp only[Instr.entryStore,Sem.run_bind,MapKept.run_getObj_map hb1,Result.andThen,asInt,asIntOf,Sem.run_pure,hidx,MapKept.run_setObj_map _ hb1,hmod,e2]
 simp[ChangeMaps.setBlock]
theorem NMap.len (h:NMap w b n f) (ty:TypeId):(Builtin.len_ #[93] ty #[.map (some b)]).run Tryz.prog w=.ok (.int .i64 n) w:=by
 obtain⟨D,ho,hs,-⟩:=h
 rw[ho.len Tryz.underlying93 ty,hs]
end
section
variable (w : World) {ops : Array Oper} {rest : List Oper} {o : Oper} {a : Act} {Q : Exit → Act → World → Prop} {K : Act → World → Prop}
theorem wp_nstore (hg:o.guard=none) (m x u:Operand) (hop:o.op=Op.mapUpdate 93 m x u) {b n:Nat} {f:Int→Option Int} (h:NMap w b n f) (hn:n<maxLen) (hm:a.eval m=.map (some b))
  {k v:Int} (hk:I64 k) (hv:I64 v) (hf:f k=none) (hx:a.eval x=.int .i64 k) (hu:a.eval u=.int .i64 v)
  (hK:∀ w',NMap w' b (n+1) (fun y=>if y=k then some v else f y)→Chg [b] w w'→wpList Tryz.prog ops Q rest (a.put o.dst undef) w'):wpList Tryz.prog ops Q (o :: rest) a w:=by
 refine wpList_plain hg fun K' hK'=>?_
 obtain⟨w2,hrun,r1,r2⟩:=h.put hn hk hv hf
 unfold Oper.wp
 simp[execOp,hop,hm,hx,hu,hrun,Result.andThen]
 exact hK' _ _ (hK w2 r1 r2)
theorem wp_entry (m x:Operand) (hop:o.op=Op.mapEntry 93 m x) {b:Nat} {k:Int} {w1:World} {v:Value} (hrun:(Instr.mapEntry 93 (.map (some b)) (.int .i64 k)).run Tryz.prog w=.ok v w1) (hm:a.eval m=.map (some b)) (hx:a.eval x=.int .i64 k)
  (hK:K (a.put o.dst v) w1):o.wp Tryz.prog a w K Q:=by
 unfold Oper.wp
 simp[execOp,hop,hm,hx,hrun,Result.andThen]
 exact hK
theorem wp_estore (m x u:Operand) (hop:o.op=Op.entryStore 93 m x u) {b:Nat} {st v:Int} {w1:World} (hrun:(Instr.entryStore 93 (.map (some b)) (.int .i64 st) (.int .i64 v)).run Tryz.prog w=.ok () w1) (hm:a.eval m=.map (some b)) (hx:a.eval x=.int .i64 st) (hu:a.eval u=.int .i64 v)
  (hK:K (a.put o.dst undef) w1):o.wp Tryz.prog a w K Q:=by
 unfold Oper.wp
 simp[execOp,hop,hm,hx,hu,hrun,Result.andThen]
 exact hK
end
structure RotaAt (w:World) (rb:Nat) (T:List (List Int)) (lv pl:Int→Option Int) (ds:List Int) (vt vd:Value) (lb pb n m:Nat):Prop where
 cells:w.heap[rb]?=some (.cells #[vt,.map (some lb),.map (some pb),vd] 224 (0,0))
 turn:RowsAt w vt T
 leaves:IMap w lb n lv
 place:IMap w pb m pl
 darts:IntsAt w vd ds
theorem beside_some (rb:Nat) (T:List (List Int)) (lv pl:Int→Option Int) (ds:List Int) (vt vd:Value) (lb pb n m:Nat) (d step:Int) (v i j:Nat) (w:World) (hd:I64 d) (hl:lv d=some (v:Int)) (hp:pl d=some (i:Int)) (hv:v<T.length) (_hT:T.length<4294967296) (hi:i<(T.getD v []).length) (hlen:(T.getD v []).length<4294967296)
  (hs:-1≤step∧step≤1) (hj:Int.tmod ((i:Int)+step+((T.getD v []).length:Int)) ((T.getD v []).length:Int)=(j:Int)) (hjl:j<(T.getD v []).length) (h:RotaAt w rb T lv pl ds vt vd lb pb n m) :
  Calls Tryz.prog 205 #[.pointer (some ⟨rb,0,none⟩),.int .i64 d,.int .i64 step] w fun e w'=>e=.returned (.tuple #[.int .i64 ((T.getD v []).getD j 0),.bool true])∧w=w':=by
 obtain⟨tto,tc,rfl,-,htc⟩:=h.turn
 obtain⟨tb,toff,u,rfl,hu,-,hints⟩:=htc v hv
 obtain⟨uo,uc,rfl,-,-,huc⟩:=hints
 obtain⟨ub,uoff,rfl,hcell⟩:=huc (by intro e;rw[e] at hi;simp at hi)
 have cj:=hcell j hjl
 have c0:=(cell_of_row _ _ 0 _ _ _ h.cells).trans (show _=some (Value.slice (some ⟨tb,toff,none⟩) T.length tc) from rfl)
 have c1:=(cell_of_row _ _ 1 _ _ _ h.cells).trans (show _=some (Value.map (some lb)) from rfl)
 have c2:=(cell_of_row _ _ 2 _ _ _ h.cells).trans (show _=some (Value.map (some pb)) from rfl)
 have HL:=lh hl
 have HP:=lh (show (pl d).getD 0=(i:Int) by rw[hp];rfl)
 have HM:=lh h.leaves
 have HQ:=lh h.place
 clear hl hp h htc huc hcell
 generalize (T.getD v []).getD j 0=z at *
 generalize (T.getD v []).length=len at *
 have hz:((len:Int)==0)=false:=by rw[beq_eq_false_iff_ne];omega
 have tok1:True:=trivial
 go_enter Tryz.func205,Tryz.ntmps205
 go_wp2_with (first
  | (at_lookup;have _t:=tok1;refine wp_look_hit _ rfl _ _ rfl HM.out rfl hd rfl HL ?_;clear tok1)
  | (at_lookup;refine wp_look _ rfl _ _ rfl HQ.out rfl hd rfl HP ?_))
 exact bodyPost_ret (v:=.tuple #[.int .i64 z,.bool true]) (by simp[results,Tryz.results205,go_sem]) rfl ⟨rfl,rfl⟩
namespace Plain
def placeRow (f:Int→Option Int) (l:List Int):Nat→Int→Option Int
 | 0=>f
 | k+1=>fun y=>if y=l.getD k 0 then some (k:Int) else placeRow f l k y
def places (T:List (List Int)):Nat→Int→Option Int
 | 0=>fun _=>none
 | k+1=>placeRow (places T k) (first (T.getD k [])) (first (T.getD k [])).length
def sumLen (T:List (List Int)):Nat→Nat
 | 0=>0
 | k+1=>sumLen T k+(T.getD k []).length
theorem sumLen_mono (T:List (List Int)) {i j:Nat} (h:i≤j):sumLen T i≤sumLen T j:=by
 induction j with
 | zero=>rw[Nat.le_zero.1 h];exact Nat.le_refl _
 | succ j ih =>
  rcases Nat.lt_or_ge i (j+1) with q | q
  ·exact Nat.le_trans (ih (by omega)) (Nat.le_add_right _ _)
  rw[Nat.le_antisymm h q];exact Nat.le_refl _
theorem first_length (l:List Int):(first l).length=l.length:=by
 unfold first
 have:=lst_le l l.length
 rw[List.length_append,List.length_drop,List.length_take]
 omega
theorem first_mem (l:List Int) (x:Int):x∈first l↔x∈l:=by
 unfold first
 rw[List.mem_append,or_comm,←List.mem_append,List.take_append_drop]
end Plain
theorem CapOk.row {w:World} {B:Nat} {v:Value} {l:List Int} (h:RowAt w B v l):CapOk v:=by
 rcases h.1.2 with ⟨rfl,h0⟩ | ⟨g,cap,cur,rfl,_,_,h1,h2,_⟩
 ·exact⟨_,_,_,rfl,Nat.le_refl _,by decide⟩
 exact⟨_,_,_,rfl,h1,by unfold maxLen at h2;omega⟩
theorem RowsOwn.rowsAt {w:World} {B:Nat} {ov:Value} {vs:List Value} {ll:List (List Int)} (h:RowsOwn w B ov vs ll) (hi:∀ l∈ll,(∀ x∈l,I64 x)∧l.length<4294967296) (hn:ll.length≤9223372036854775807):RowsAt w ov ll:=by
 obtain⟨ao,cap,e⟩:=owns_shape h.out
 have hl:=h.len
 refine⟨ao,cap,by rw[e,hl],hn,fun i hi'=>?_⟩
 have hiv:i<vs.length:=by omega
 obtain⟨g,c,e2⟩:=owns_some h.out (by omega)
 have hm:ll.getD i []∈ll:=by simp[List.getD,hi']
 have hr:RowAt w B (vs.getD i undef) (ll.getD i []):=⟨h.rows i hiv,(hi _ hm).1,(hi _ hm).2⟩
 rw[e] at e2
 simp only[Value.slice.injEq] at e2
 obtain⟨rfl,-,-⟩:=e2
 refine⟨g,0,vs.getD i undef,rfl,?_,CapOk.row hr,hr.ints⟩
 have hc:=h.out.cells (g:=g) (by rw[e];rfl) i (vs.getD i undef) (by simp[List.getD,hiv])
 have hadd:(⟨g,0,none⟩:Addr).add i=⟨g,0+i,none⟩:=by unfold Addr.add;split <;> simp_all
 rwa[hadd] at hc
theorem free_at {w:World} {b:Nat} {cs:Array Value} {t:TypeId} (h:w.heap[b]?=some (.cells cs t (0,0))) (i:Nat):w.frozen? ⟨b,i,none⟩=false:=by
 simp[World.frozen?,h]
theorem owns_other {w:World} {B:Nat} {v:Value} {n:Nat} {xs:List Value} {e t:TypeId} {sz b:Nat} {cs:Array Value} {r:Nat × Nat} (h:w.ownsRow B e sz v n xs) (hb:w.heap[b]?=some (.cells cs t r)) (he:e≠t):v.ownBlock≠some b:=by
 rcases h.2 with ⟨rfl,_⟩ | ⟨g,cap,cur,rfl,_,hg,_⟩
 ·simp[Value.ownBlock]
 intro e1
 simp[Value.ownBlock] at e1
 subst e1
 rw[hg] at hb
 simp at hb
 exact he hb.2.1
theorem owns_map {w:World} {B:Nat} {v:Value} {n:Nat} {xs:List Value} {e:TypeId} {sz b m:Nat} {f:Int→Option Int} (h:w.ownsRow B e sz v n xs) (hb:IMap w b m f):v.ownBlock≠some b:=by
 rcases h.2 with ⟨rfl,_⟩ | ⟨g,cap,cur,rfl,_,hg,_⟩
 ·simp[Value.ownBlock]
 intro e1
 simp[Value.ownBlock] at e1
 exact hb.ne hg e1
structure TakeAt (w0 w:World) (vd:Value) (lb:Nat) (R:List (List Int)) (pl:Int→Option Int) (N:Nat):Prop where
 obj:∃ tv vs,w.heap[w0.heap.size+1]?=some (.cells #[tv,.map (some lb),.map (some w0.heap.size),vd] 224 (0,0))∧RowsOwn w w0.heap.size tv vs R
 place:IMap w w0.heap.size N pl
 ch:Chg [] w0 w
theorem TakeAt.row {w0 w w':World} {vd v:Value} {lb g cap N n B c:Nat} {tto:Option Addr} {R:List (List Int)} {pl:Int→Option Int} {l:List Int} {vs:List Value} (h1:w.heap[w0.heap.size+1]?=some (.cells #[.slice tto n c,.map (some lb),.map (some w0.heap.size),vd] 224 (0,0))) (h2:RowsOwn w w0.heap.size (.slice tto n c) vs R) (h3:IMap w w0.heap.size N pl) (h4:Chg [] w0 w) (hB:w0.heap.size≤B)
  (hv:RowAt w B v l) (hlow:∀ k b,k<vs.length→(vs.getD k undef).ownBlock=some b→b<B) (hn:w'.ownsRow w0.heap.size 27 1 (.slice (some ⟨g,0,none⟩) (vs.length+1) cap) (vs.length+1) (vs++[v])) (hc:Chg (Value.slice tto n c).ownBlock.toList w w') :
  TakeAt w0 (w'.setCell ⟨w0.heap.size+1,0,none⟩ (.slice (some ⟨g,0,none⟩) (vs.length+1) cap)) vd lb (R++[l]) pl N:=by
 have hno:=owns_other h2.out h1 (by decide)
 have hnm:(Value.slice tto n c).ownBlock≠some w0.heap.size:=owns_map h2.out h3
 have hb':=hc.heap h1 (by simpa using hno)
 have hadd:=h2.add (owns_base hv.1 hB) (fun k b hk hb e=>by have:=hlow k b hk hb;have:=(hv.low b (by rw[e];simp)).1;omega) hn hc
 have hset:Chg [w0.heap.size+1] w' (w'.setCell ⟨w0.heap.size+1,0,none⟩ (.slice (some ⟨g,0,none⟩) (vs.length+1) cap)):=(Chg.refl _ _).setCell (Or.inl (by simp)) _
 refine⟨⟨_,_,heap_setCell_same hb' 0 _,hadd.chg hset (fun b hb e=>?_) (fun k b hk hb e=>?_)⟩,(h3.chg hc (by simpa using hnm)).chg hset (by simp),(h4.trans hc (fun j hj=>Or.inr ?_)).trans hset (fun j hj=>Or.inr (by simp at hj;omega))⟩
 ·simp at e;subst e
  exact owns_other hadd.out hb' (by decide) hb
 ·simp at e;subst e
  exact owns_other (hadd.rows k hk) hb' (by decide) hb
 exact (h2.out.lt j (by simpa using hj)).1
set_option maxRecDepth 100000 in
set_option maxHeartbeats 1000000 in
theorem take_any (vt vd:Value) (T:List (List Int)) (lv:Int→Option Int) (ds:List Int) (lb n:Nat) (w:World) (hTL:T.length<2147483648) (hS:Plain.sumLen T T.length<2147483648) (ht:RowsAt w vt T) (hl:NMap w lb n lv) (hd:IntsAt w vd ds) :
  Calls Tryz.prog 203 #[vt,.map (some lb),vd] w fun e w'=>∃ vt',e=.returned (.pointer (some ⟨w.heap.size+1,0,none⟩))∧RotaAt w' (w.heap.size+1) (T.map Plain.first) lv (Plain.places T T.length) ds vt' vd lb w.heap.size n (Plain.sumLen T T.length)∧Chg [] w w':=by
 have HT:=lh ht
 have HSM:=lh hS
 have HN:=lh hl
 have HD:=lh hd
 obtain⟨dao,dcap,rfl,-,-,-⟩:=hd
 obtain⟨tto,tc,rfl,-,htc⟩:=ht
 have HTC:=lh htc
 have HLT:=lh hl.lt
 have C0:=lh (((Chg.refl [] w).alloc (.map #[] 0)).alloc (.cells #[.slice none 0 0,.map (some lb),.map (some w.heap.size),.slice dao ds.length dcap] 224))
 have HT0:=lh (show TakeAt w ((w.alloc (.map #[] 0)).alloc (.cells #[.slice none 0 0,.map (some lb),.map (some w.heap.size),.slice dao ds.length dcap] 224)) (.slice dao ds.length dcap) lb [] (Plain.places T 0) 0 from
  ⟨⟨_,[],by simpa using heap_alloc_new (w.alloc (.map #[] 0)) (.cells #[.slice none 0 0,.map (some lb),.map (some w.heap.size),.slice dao ds.length dcap] 224),RowsOwn.nil _ _⟩,(IMap.made w).alloc _,C0.out⟩)
 clear htc hl hS
 go_enter Tryz.func203,Tryz.ntmps203
 have hmm:=fun n w=>run_makeMap_hint Tryz.underlying93 n w
 have hln:=HN.out.len
 go_wp2
 clear hmm hln
 have hsz1:w.heap.size+2=((w.alloc (.map #[] 0)).alloc (.cells #[.slice none 0 0,.map (some lb),.map (some w.heap.size),.slice dao ds.length dcap] 224)).heap.size:=by simp
 have HSZ:=lh hsz1
 generalize hw1:((w.alloc (.map #[] 0)).alloc (.cells #[.slice none 0 0,.map (some lb),.map (some w.heap.size),.slice dao ds.length dcap] 224))=w1 at *
 clear hw1 hsz1
 go_loopw [22] (fun c wr=>∃ k:Nat,k≤T.length∧c=.int .i64 k∧TakeAt w wr (.slice dao ds.length dcap) lb ((T.take k).map Plain.first) (Plain.places T k) (Plain.sumLen T k)) (fun c _=>T.length - (intOf c).toNat)
 case atStart=>exact⟨0,Nat.zero_le _,rfl,HT0.out⟩
 case round =>
  obtain⟨k,hk,rfl,hrel⟩:=hrel
  have HR:=lh hrel
  by_cases hlt:k<T.length
  ·obtain⟨tb,toff,u,rfl,hu,hcap,hints⟩:=HTC.out k hlt
   have ck:=hrel.ch.cell hu (by simp)
   have HIN:=lh (hints.fresh hrel.ch)
   obtain⟨uo,uc,rfl,hsm,hul,-⟩:=hints
   obtain⟨⟨tv,vs,hb,hro⟩,hm,hch⟩:=hrel
   obtain⟨tvo,tvc,rfl⟩:=owns_shape hro.out
   have HLOW:=lh (show ∀ k b,k<vs.length→(vs.getD k undef).ownBlock=some b→b<wr.heap.size from fun k b hk hb=>((hro.rows k hk).lt b hb).2)
   have HB:=lh hb
   have HRO:=lh hro
   have HMM:=lh hm
   have HCC:=lh hch
   have HVL:=lh (show vs.length=k by rw[hro.len,List.length_map,List.length_take];omega)
   have HTL:=lh hlt
   have hk1:Plain.sumLen T (k+1)=Plain.sumLen T k+(T.getD k []).length:=rfl
   have hk2:=Plain.sumLen_mono T (show k+1≤T.length from hlt)
   have hkS:=HSM.out
   have HL:=lh (Plain.first_length (T.getD k []))
   have HI:=lh (show ∀ x∈Plain.first (T.getD k []),I64 x from fun x hx=>hsm x ((Plain.first_mem _ x).1 hx))
   have HLEN:=lh (show (T.getD k []).length<2147483648 by omega)
   have HPR:=lh (show Plain.places T (k+1)=Plain.placeRow (Plain.places T k) (Plain.first (T.getD k [])) (Plain.first (T.getD k [])).length from rfl)
   have HTK:=lh (show (T.take (k+1)).map Plain.first=(T.take k).map Plain.first++[Plain.first (T.getD k [])] by rw[List.take_succ_eq_append_getElem hlt,List.map_append];simp[List.getD,hlt])
   have HSK:=lh (show Plain.sumLen T (k+1)=Plain.sumLen T k+(Plain.first (T.getD k [])).length by rw[HL.out];rfl)
   have HNB:=lh (show Plain.sumLen T k+(Plain.first (T.getD k [])).length<2147483648 by rw[HL.out];omega)
   have HBW:=lh (show w.heap.size≤wr.heap.size from hch.size)
   clear hsm hul hu hk1 hk2 hkS hb hro hm hch hlt
   generalize T.getD k []=l at *
   go_wp2_with fail
   refine (first_any _ l _ HLEN.out hcap HIN.out).mono ?_
   rintro e w2 ⟨v',rfl,hrow,hc2⟩
   have HB2:=lh (hc2.heap HB.out (by simp))
   have HRO2:=lh (HRO.out.chg hc2 (by simp) (by simp))
   have HM2:=lh (HMM.out.chg hc2 (by simp))
   have HC2:=lh (HCC.out.trans hc2 (by simp))
   have HROW:=lh hrow
   obtain⟨ro,rc,rfl⟩:=hrow.shape
   have HRI:=lh hrow.ints
   clear hcap hrow hc2 ck
   generalize Plain.first l=L at *
   clear HL HIN HLEN
   have hLL:L.length<2147483648:=by have:=HNB.out;omega
   go_wp2
   go_loopw [30] (fun c wi=>∃ j:Nat,j≤L.length∧c=.int .i64 j∧IMap wi w.heap.size (Plain.sumLen T k+j) (Plain.placeRow (Plain.places T k) L j)∧Chg [w.heap.size] w2 wi) (fun c _=>L.length - (intOf c).toNat)
   case atStart=>exact⟨0,Nat.zero_le _,rfl,HM2.out,Chg.refl _ _⟩
   case round =>
    obtain⟨j,hj,rfl,hm,hch⟩:=hrel
    have HM:=lh hm
    have HCH:=lh hch
    by_cases hltj:j<L.length
    ·obtain⟨lo,lcap,hle,-,-,hlc⟩:=HRI.out
     simp only[Value.slice.injEq] at hle
     obtain⟨rfl,-,rfl⟩:=hle
     obtain⟨rb,roff,rfl,hcj⟩:=hlc (by intro e;rw[e] at hltj;simp at hltj)
     have cj:=hch.cell (hcj j hltj) (by intro e;obtain⟨cs,r,hh⟩:=row_kind HROW.out rb (by simp[foot,Value.ownBlock]);exact HM2.out.ne hh (by simpa using e))
     have c0:=(cell_of_row _ _ 2 _ _ _ (hch.heap HB2.out (by simp))).trans (show _=some (Value.map (some w.heap.size)) from rfl)
     have IJ:I64 (j:Int):=I64.mk (by omega) (by have:=HNB.out;omega)
     have IX:=HI.out (L.getD j 0) (by simp[List.getD,hltj])
     have HPJ:=lh (show Plain.placeRow (Plain.places T k) L (j+1)=fun y=>if y=L.getD j 0 then some (j:Int) else Plain.placeRow (Plain.places T k) L j y from rfl)
     have hmx:Plain.sumLen T k+j<maxLen:=by have:=HNB.out;unfold maxLen;omega
     clear hcj hlc hm hch
     generalize L.getD j 0=x at *
     go_wp2_with (at_mapUpdate;refine wp_store _ rfl _ _ _ rfl HM.out hmx rfl IX IJ rfl rfl ?_;intro w3 m3 g3;have M3:=lh m3;have G3:=lh g3;clear m3 g3)
     go_roundw
     case rel=>exact⟨j+1,by omega,by go_num,by rw[HPJ.out];exact M3.out,HCH.out.grown G3.out (fun j hj=>by cases hj;exact Or.inl (by simp))⟩
     case measure=>simp[intOf];omega
    have e:j=L.length:=by omega
    subst e
    have HB3:=lh (hch.heap HB2.out (by simp))
    have HRO3:=lh (HRO2.out.chg hch (fun b hb e=>by simp at e;subst e;exact owns_map HRO2.out.out HM2.out hb) (fun k b hk hb e=>by simp at e;subst e;exact owns_map (HRO2.out.rows k hk) HM2.out hb))
    have HROW3:=lh (HROW.out.chg hch (fun b hb e=>by obtain⟨cs,r,hh⟩:=row_kind HROW.out b (by rw[HROW.out.foot];exact hb);exact HM2.out.ne hh (by simpa using e)))
    have HC3:=lh (HC2.out.trans hch (fun j hj=>Or.inr (by simp at hj;omega)))
    have c0:=(cell_of_row _ _ 0 _ _ _ (hch.heap HB2.out (by simp))).trans (show _=some (Value.slice tvo vs.length tvc) from rfl)
    have hvl:vs.length<68719476736:=by have:=HVL.out;have:=HTL.out;have:=hTL;omega
    have HSB:=lh (show w.heap.size≤wr.heap.size from HC3.out.size)
    have HNO:=lh (show w.heap.size+1 ∉ (Value.slice tvo vs.length tvc).ownBlock.toList from fun e=>owns_other HRO3.out.out HB3.out (by decide) (by simpa using e))
    clear hm hch
    go_wp2_with (at_builtin;refine wp_app elemRow rfl (.tmp 46) (.tmp 48) rfl (v:=.slice tvo vs.length tvc) rfl rfl rfl HRO3.out.out HSB.out rfl (oneSlice _ _ _) hvl ?_;intro g cap w4 r4 c4 l4;have R4:=lh r4;have C4:=lh c4;have b4:=c4.heap HB3.out HNO.out;have s4:=(cell_of_row _ _ 0 _ _ _ b4).trans (show _=some (Value.slice tvo vs.length tvc) from rfl);have z4:w4.frozen? ⟨w.heap.size+1,0,none⟩=false:=free_at b4 0;clear r4 c4 l4 b4)
    have HT5:=lh (HB3.out)
    have HT6:=lh (TakeAt.row HB3.out HRO3.out HM.out HC3.out HBW.out HROW3.out HLOW.out R4.out C4.out)
    rw[←HTK.out,←HSK.out,←HPR.out] at HT6
    go_roundw
    case rel=>exact⟨k+1,by have:=HTL.out;omega,by go_num,HT6.out⟩
    case measure=>have:=HTL.out;simp[intOf];omega
  have e:k=T.length:=by omega
  subst e
  clear hrel
  have HFIN:=lh (show ∃ vt',RotaAt wr (w.heap.size+1) (T.map Plain.first) lv (Plain.places T T.length) ds vt' (.slice dao ds.length dcap) lb w.heap.size n (Plain.sumLen T T.length) by
   obtain⟨⟨tv,vs,hb,hro⟩,hm,hch⟩:=HR.out
   rw[List.take_length] at hro
   refine⟨tv,hb,hro.rowsAt (fun l hl=>?_) (by rw[List.length_map];omega),HN.out.imap.chg hch (by simp),hm,HD.out.fresh hch⟩
   obtain⟨q,hq,rfl⟩:=List.mem_map.1 hl
   obtain⟨i,hi,e⟩:=List.getElem_of_mem hq
   have hqi:T.getD i []=q:=by simp[List.getD,hi,e]
   obtain⟨_,_,u,_,_,_,hints⟩:=HTC.out i hi
   rw[hqi] at hints
   obtain⟨_,_,_,hsm,_,_⟩:=hints
   have h1:Plain.sumLen T (i+1)=Plain.sumLen T i+(T.getD i []).length:=rfl
   have h2:=Plain.sumLen_mono T (show i+1≤T.length from hi)
   have h3:=HSM.out
   rw[hqi] at h1
   exact⟨fun x hx=>hsm x ((Plain.first_mem _ x).1 hx),by rw[Plain.first_length];omega⟩)
  have HCF:=lh (HR.out.ch)
  go_wp2
  go_ret
  obtain⟨vt',h⟩:=HFIN.out
  exact⟨vt',rfl,h,HCF.out⟩
end Go.Proofs.YtkacjmoamgjfpaaGreat
namespace Go.Proofs.YtkacjmoamgjfpaaGreat.Plain
theorem len_le_of_sub:∀ {l m:List Int},l.Nodup→(∀ x∈l,x∈m)→l.length≤m.length
 | [],_,_,_=>Nat.zero_le _
 | x :: l,m,h,hs=>by
  rw[List.nodup_cons] at h
  obtain⟨a,b,rfl⟩:=List.append_of_mem (hs x (by simp))
  have h2:=len_le_of_sub h.2 (m:=a++b) (fun y hy=>by
   have h3:=hs y (by simp[hy])
   have h4:y≠x:=fun e=>h.1 (e ▸ hy)
   simp only[List.mem_append,List.mem_cons] at h3 ⊢
   rcases h3 with q | q | q
   ·exact Or.inl q
   ·exact absurd q h4
   exact Or.inr q)
  simp only[List.length_append,List.length_cons] at h2 ⊢
  omega
def seen (turn:List (List Int)) (k j:Nat):List Int:=(turn.take k).flatten++(turn.getD k []).take j
theorem take_snoc {l:List Int} {j:Nat} (hj:j<l.length):l.take (j+1)=l.take j++[l.getD j 0]:=by
 rw[List.take_succ_eq_append_getElem hj]
 simp[List.getD,hj]
theorem nodup_flat {L:List (List Int)}:L.flatten.Nodup↔(∀ l∈L,l.Nodup)∧L.Pairwise fun a b=>∀ x∈a,∀ y∈b,x≠y:=List.pairwise_flatten
theorem seen_zero (turn:List (List Int)):seen turn 0 0=[]:=by simp[seen]
theorem seen_next {turn:List (List Int)} {k j:Nat} (hj:j<(turn.getD k []).length):seen turn k (j+1)=seen turn k j++[(turn.getD k []).getD j 0]:=by
 unfold seen
 rw[List.append_assoc,take_snoc hj]
theorem seen_row {turn:List (List Int)} {k:Nat} (hk:k<turn.length):seen turn (k+1) 0=seen turn k (turn.getD k []).length:=by
 unfold seen
 rw[List.take_succ_eq_append_getElem hk,List.take_zero,List.append_nil,List.flatten_append,List.take_length]
 simp[List.getD,hk]
theorem seen_all (turn:List (List Int)):seen turn turn.length 0=turn.flatten:=by simp[seen]
structure Good (g:Gr) (p:Pt) (turn:List (List Int)) (k j:Nat):Prop where
 nodup:(seen turn k j).Nodup
 rows:∀ i,i<k→∀ d∈turn.getD i [],d∈p.darts∧g.tail d=(i:Int)
 last:∀ d∈(turn.getD k []).take j,d∈p.darts∧g.tail d=(k:Int)
theorem Good.start (g:Gr) (p:Pt) (turn:List (List Int)):Good g p turn 0 0:=⟨by rw[seen_zero];exact List.nodup_nil,fun i hi=>by omega,by simp⟩
theorem Good.next {g:Gr} {p:Pt} {turn:List (List Int)} {k j:Nat} (h:Good g p turn k j) (hj:j<(turn.getD k []).length) (hd:(turn.getD k []).getD j 0∈p.darts) (ht:g.tail ((turn.getD k []).getD j 0)=(k:Int)) (hn:(turn.getD k []).getD j 0 ∉ seen turn k j):Good g p turn k (j+1):=by
 refine⟨?_,h.rows,fun d hd'=>?_⟩
 ·rw[seen_next hj,List.nodup_append]
  exact⟨h.nodup,by simp,fun a ha b hb e=>by simp at hb;subst hb;subst e;exact hn ha⟩
 rw[take_snoc hj,List.mem_append] at hd'
 rcases hd' with q | q
 ·exact h.last d q
 have e:d=(turn.getD k []).getD j 0:=List.mem_singleton.1 q
 rw[e];exact⟨hd,ht⟩
theorem Good.row {g:Gr} {p:Pt} {turn:List (List Int)} {k:Nat} (h:Good g p turn k (turn.getD k []).length) (hk:k<turn.length):Good g p turn (k+1) 0:=by
 refine⟨by rw[seen_row hk];exact h.nodup,fun i hi d hd=>?_,by simp⟩
 by_cases e:i<k
 ·exact h.rows i e d hd
 obtain rfl:i=k:=by omega
 exact h.last d (by rw[List.take_length];exact hd)
theorem mem_turn {turn:List (List Int)} {v:Nat} {d:Int} (h:d∈turn.getD v []):d∈turn.flatten:=by
 by_cases hv:v<turn.length
 ·refine List.mem_flatten.2 ⟨turn.getD v [],?_,h⟩
  simp[List.getD,hv]
 simp[List.getD,Nat.not_lt.1 hv] at h
theorem turn_of_mem {turn:List (List Int)} {d:Int} (h:d∈turn.flatten):∃ v,v<turn.length∧d∈turn.getD v []:=by
 obtain⟨l,hl,hd⟩:=List.mem_flatten.1 h
 obtain⟨i,hi,rfl⟩:=List.getElem_of_mem hl
 exact⟨i,hi,by simpa[List.getD,hi] using hd⟩
theorem Good.turns {g:Gr} {p:Pt} {turn:List (List Int)} (_hp:PartOk g p) (hn:(turn.length:Int)=g.n) (h:Good g p turn turn.length 0) (hl:turn.flatten.length=2*p.e.length):TurnsOk g p turn:=by
 have hnd:turn.flatten.Nodup:=by have:=h.nodup;rwa[seen_all] at this
 have hsub:∀ d∈turn.flatten,d∈p.darts:=fun d hd=>by
  obtain⟨v,hv,hd⟩:=turn_of_mem hd
  exact (h.rows v hv d hd).1
 have hsup:∀ d∈p.darts,d∈turn.flatten:=fun d hd=>by
  refine Classical.byContradiction fun hno=>?_
  have:=len_le_of_sub (l:=d :: turn.flatten) (m:=p.darts) (by rw[List.nodup_cons];exact⟨hno,hnd⟩) (fun x hx=>by
   rcases List.mem_cons.1 hx with q | q
   ·rw[q];exact hd
   exact hsub x q)
  rw[List.length_cons,darts_length] at this
  omega
 refine⟨hn,fun v=>?_,fun v hv0 hv1 d=>⟨fun hd=>?_,fun hd=>?_⟩⟩
 ·unfold turnAt
  by_cases hv:v.toNat<turn.length
  ·have:turn.getD v.toNat []∈turn:=by simp[List.getD,hv]
   exact (nodup_flat.1 hnd).1 _ this
  simp[List.getD,Nat.not_lt.1 hv]
 ·have:=h.rows v.toNat (by omega) d hd
  refine⟨this.1,by omega⟩
 obtain⟨u,hu,hdu⟩:=turn_of_mem (hsup d hd.1)
 have:=(h.rows u hu d hdu).2
 have e:u=v.toNat:=by omega
 subst e
 exact hdu
theorem TurnsOk.row {g:Gr} {p:Pt} {turn:List (List Int)} (h:TurnsOk g p turn) {i:Nat} (hi:i<turn.length) {d:Int} (hd:d∈turn.getD i []):d∈p.darts∧g.tail d=(i:Int):=by
 have:=(h.mem (i:Int) (by omega) (by have:=h.len;omega) d).1 (by unfold turnAt;simpa using hd)
 exact this
theorem TurnsOk.flat_nodup {g:Gr} {p:Pt} {turn:List (List Int)} (h:TurnsOk g p turn):turn.flatten.Nodup:=by
 rw[nodup_flat]
 refine⟨fun l hl=>?_,?_⟩
 ·obtain⟨i,hi,rfl⟩:=List.getElem_of_mem hl
  have:=h.nodup (i:Int)
  unfold turnAt at this
  simpa[List.getD,hi] using this
 rw[List.pairwise_iff_getElem]
 intro i j hi hj hij x hx y hy e
 subst e
 have h1:=(h.row hi (d:=x) (by simpa[List.getD,hi] using hx)).2
 have h2:=(h.row hj (d:=x) (by simpa[List.getD,hj] using hy)).2
 omega
theorem TurnsOk.flat_len {g:Gr} {p:Pt} {turn:List (List Int)} (hp:PartOk g p) (h:TurnsOk g p turn):turn.flatten.length=2*p.e.length:=by
 rw[←darts_length]
 refine Nat.le_antisymm (len_le_of_sub h.flat_nodup fun d hd=>?_) (len_le_of_sub (darts_nodup hp.en) fun d hd=>?_)
 ·obtain⟨v,hv,hd⟩:=turn_of_mem hd
  exact (h.row hv hd).1
 have hv:=hp.vr _ (hp.tail_mem hd).1
 have h1:d∈turnAt turn (g.tail d):=(h.mem (g.tail d) hv.1 hv.2 d).2 ⟨hd,rfl⟩
 exact mem_turn h1
theorem seen_sub (turn:List (List Int)) (k j:Nat):∃ r,turn.flatten=seen turn k j++r:=by
 by_cases hk:k<turn.length
 ·refine⟨(turn.getD k []).drop j++(turn.drop (k+1)).flatten,?_⟩
  have e:turn=turn.take k++turn.getD k [] :: turn.drop (k+1):=by
   have:turn.getD k []=turn[k]:=by simp[List.getD,hk]
   rw[this,List.getElem_cons_drop,List.take_append_drop]
  conv=>lhs;rw[e]
  unfold seen
  rw[List.flatten_append,List.flatten_cons,List.append_assoc,←List.append_assoc ((turn.getD k []).take j),List.take_append_drop]
 refine⟨[],?_⟩
 unfold seen
 rw[List.take_of_length_le (by omega)]
 simp[List.getD,Nat.not_lt.1 hk]
theorem TurnsOk.once {g:Gr} {p:Pt} {turn:List (List Int)} (h:TurnsOk g p turn) {k j:Nat} (hj:j<(turn.getD k []).length):(turn.getD k []).getD j 0 ∉ seen turn k j:=by
 intro hm
 obtain⟨r,hr⟩:=seen_sub turn k (j+1)
 have hn:=h.flat_nodup
 rw[hr,seen_next hj,List.nodup_append] at hn
 have:=hn.1
 rw[List.nodup_append] at this
 exact this.2.2 _ hm _ (by simp) rfl
open Classical in
noncomputable def turnErr (g:Gr) (p:Pt) (turn:List (List Int)):Int:=if p.err g≠0 then p.err g else if TurnsOk g p turn then 0 else 5
theorem turnErr_part {g:Gr} {p:Pt} {turn:List (List Int)} (h:p.err g≠0):turnErr g p turn=p.err g:=if_pos h
theorem turnErr_bad {g:Gr} {p:Pt} {turn:List (List Int)} (h:p.err g=0) (ht:¬ TurnsOk g p turn):turnErr g p turn=5:=by
 unfold turnErr;rw[if_neg (by simp[h]),if_neg ht]
theorem turnErr_ok {g:Gr} {p:Pt} {turn:List (List Int)} (h:p.err g=0) (ht:TurnsOk g p turn):turnErr g p turn=0:=by
 unfold turnErr;rw[if_neg (by simp[h]),if_pos ht]
theorem turnErr_zero {g:Gr} {p:Pt} {turn:List (List Int)} (h:turnErr g p turn=0):p.err g=0∧TurnsOk g p turn:=by
 by_cases h1:p.err g=0
 ·refine⟨h1,Classical.byContradiction fun h2=>?_⟩
  rw[turnErr_bad h1 h2] at h
  cases h
 rw[turnErr_part h1] at h;exact absurd h h1
def leavesOf (g:Gr) (p:Pt) (k:Nat):Int→Option Int:=fun d=>if d∈Pt.darts ⟨[],p.e.take k⟩ then some (g.tail d) else none
theorem darts_take {p:Pt} {k:Nat} (hk:k<p.e.length):Pt.darts ⟨[],p.e.take (k+1)⟩=Pt.darts ⟨[],p.e.take k⟩++[2*p.e.getD k 0,2*p.e.getD k 0+1]:=by
 unfold Pt.darts
 rw[List.take_succ_eq_append_getElem hk,List.flatMap_append]
 simp[List.getD,hk]
theorem leavesOf_zero (g:Gr) (p:Pt):leavesOf g p 0=fun _=>none:=by funext d;simp[leavesOf,Pt.darts]
theorem leavesOf_all (g:Gr) (p:Pt):leavesOf g p p.e.length=fun d=>if d∈p.darts then some (g.tail d) else none:=by
 funext d;unfold leavesOf;rw[List.take_length];rfl
theorem leavesOf_next {g:Gr} {p:Pt} {k e:Nat} (hk:k<p.e.length) (he:p.e.getD k 0=(e:Int)) :
  leavesOf g p (k+1)=fun y=>if y=2*(e:Int)+1 then some (g.ends e).2 else if y=2*(e:Int) then some (g.ends e).1 else leavesOf g p k y:=by
 funext y
 unfold leavesOf
 rw[darts_take hk,he]
 have t0:g.tail (2*(e:Int))=(g.ends e).1:=by unfold Gr.tail Gr.at;rw[if_pos (by omega)];congr 2;omega
 have t1:g.tail (2*(e:Int)+1)=(g.ends e).2:=by unfold Gr.tail Gr.at;rw[if_neg (by omega)];congr 2;omega
 simp only[List.mem_append,List.mem_cons,List.not_mem_nil,or_false]
 by_cases h1:y=2*(e:Int)+1
 ·subst h1;simp[t1]
 by_cases h2:y=2*(e:Int)
 ·subst h2;rw[if_neg h1,if_pos rfl,t0,if_pos (by simp)]
 simp[h1,h2]
theorem leavesOf_new {g:Gr} {p:Pt} (hp:p.e.Pairwise (·<·)) {k:Nat} (hk:k<p.e.length) {d:Int} (hd:d / 2=p.e.getD k 0):leavesOf g p k d=none:=by
 unfold leavesOf
 refine if_neg fun h=>?_
 rw[mem_darts,hd] at h
 obtain⟨i,hi,e⟩:=List.getElem_of_mem h
 rw[List.length_take] at hi
 rw[List.getElem_take] at e
 have:=List.pairwise_iff_getElem.1 hp i k (by omega) hk (by omega)
 rw[e] at this
 simp[List.getD,hk] at this
end Go.Proofs.YtkacjmoamgjfpaaGreat.Plain
