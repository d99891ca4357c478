/- package rota: the contracts of Darts and of its iterator. Conditions: turns that lie in memory and read so. -/
import Derived.RangeFuncNested
import Derived.RangeFuncBound
import Derived.RangeFuncCalls
import Derived.RangeFuncLeaves
import Derived.RangeFuncBox
import Derived.Shelf.Abstract
import Derived.Shelf.AbstractIn
import Derived.Shelf.RegionOpen
import Derived.OwnWalkIn
import Derived.TacticsInMore
import Derived.LoopNIn
import Derived.LoopIn
import Derived.Maps.OwnIn
import Derived.Test.YtmhcmnaecpagiaaGreatZGood
import Derived.Test.YtmhcmnaecpagiaaGreatZQueue
namespace Go.Proofs.YtmhcmnaecpagiaaGreat
open Go.RowKit Go.Maps
section
attribute [local go_sem] Oper.semAt_some
end
end Go.Proofs.YtmhcmnaecpagiaaGreat
namespace Go.Proofs.YtmhcmnaecpagiaaGreat
open Go.RowKit Go.Maps
def faceCells (F:List Plain.Face):List Cell:=F.flatMap fun f=>[.num f.1,.row f.2]
theorem faceCells_snoc (F:List Plain.Face) (f:Plain.Face):faceCells (F++[f])=faceCells F++[.num f.1,.row f.2]:=by simp[faceCells]
structure OutW (B:Nat) (wr:World) (ob T:Nat) (F:List Plain.Face):Prop where
 ex:∃ ov xs,wr.heap[ob]?=some (.cells #[ov] 130 (0,0))∧Nest wr B 133 2 ov F.length xs (faceCells F)∧(∀ b,ov.ownBlock=some b→b<T)∧∀ k b,k<xs.length→(xs.getD k undef).ownBlock=some b→b<T
 lt:ob<T
end Go.Proofs.YtmhcmnaecpagiaaGreat
namespace Go.Proofs.YtmhcmnaecpagiaaGreat
open Go.RowKit Go.Maps
section
variable {ops : Array Oper} {rest : List Oper} {o : Oper} {a : Act} {Q : Exit → Act → World → Prop} {w w' : World} {F : Fence} {nF : Nat}
theorem wl_apprun (hg:o.guard=none) (s x:Operand) (t:TypeId) (ho:o.op=.call { callee:=.builtin .append,args:=#[s,x],argTypes:=#[t,t] }) {v u r:Value} (hs:a.eval s=v) (hx:a.eval x=u)
  (hr:(Builtin.append_ #[t,t] o.type #[v,u]).run Tryz.prog w=.ok r w') (hK:wpList Tryz.prog ops Q rest (a.put o.dst r) w'):wpList Tryz.prog ops Q (o :: rest) a w:=by
 refine wpList_plain hg fun K hK'=>?_;unfold Oper.wp execOp;simp only[ho,resolve,invoke,builtin,Sem.run_bind,Sem.run_pure,Result.andThen_ok,List.map_toArray,List.map_cons,List.map_nil,hs,hx,hr];exact hK' _ _ hK
variable (w)
end
namespace Plain
end Plain
end Go.Proofs.YtmhcmnaecpagiaaGreat
namespace Go.Proofs.YtmhcmnaecpagiaaGreat
open Go.RowKit Go.Maps
structure OnWay (g:Plain.Gr) (p:Plain.Pt) (turn:List (List Int)) (w2 W:World) (mb ob rb D wb:Nat) (L0 F:List Plain.Face) (d:Int) (L:List Int) (v:Value) (f:Int→Option Int) (wi:World):Prop where
 box:wi.heap[wb]?=some (.cells #[.int .i64 d,v] 133 (0,0))
 row:RowAt wi (wb+1) v L
 out:OutW w2.heap.size wi ob wb (L0++F)
 left:IMap wi mb p.darts.length f
 f:∀ y,f y≠none↔y∈p.darts∧y ∉ Plain.flat F∧y ∉ L
 lbox:wi.heap[mb+1]?=some (.cells #[.map (some mb)] 119 (0,0))
 rbox:wi.heap[w2.heap.size]?=some (.cells #[.pointer (some ⟨rb,0,none⟩)] 174 (0,0))
 dfr:wi.heap[D]?=some (.deferred (some []))
 chg:Chg [mb] W wi
section
attribute [local go_sem] Oper.semAt_some
end
end Go.Proofs.YtmhcmnaecpagiaaGreat
namespace Go.Proofs.YtmhcmnaecpagiaaGreat.Plain
theorem darts_pair {p:Pt} (h:p.e.Pairwise (·<·)):p.darts.Pairwise (·<·):=by
 obtain⟨v,e⟩:=p;unfold Pt.darts;dsimp only at h ⊢
 induction e with
 | nil=>simp
 | cons a l ih =>
  rw[List.pairwise_cons] at h;rw[List.flatMap_cons,List.pairwise_append];refine⟨by simp;omega,ih h.2,fun x hx y hy=>?_⟩;obtain⟨b,hb,hy⟩:=List.mem_flatMap.1 hy;have:=h.1 b hb;simp at hx hy;omega
theorem Trk.least' {g:Gr} {p:Pt} {turn:List (List Int)} {F:List Face} (h:Trk g p turn F p.darts) (hr:p.e.Pairwise (·<·)) {f:Face} (hf:f∈F) {y:Int} (hy:y∈f.2):f.1≤y:=by
 obtain⟨a,b,e,ha⟩:=h.least f hf;have hd:=h.sub y (List.mem_flatten.2 ⟨f.2,List.mem_map.2 ⟨f,hf,rfl⟩,hy⟩);have hp:=darts_pair hr;rw[e] at hd hp;rcases List.mem_append.1 hd with q | q
 ·exact absurd q (ha y hy)
 rcases List.mem_cons.1 q with q | q
 ·omega
 have:=(List.pairwise_cons.1 (List.pairwise_append.1 hp).2.1).1 y q;omega
theorem Trk.keysRise {g:Gr} {p:Pt} {turn:List (List Int)} {F:List Face} (h:Trk g p turn F p.darts) (hr:p.e.Pairwise (·<·)):(F.map (·.1)).Pairwise (·<·):=(darts_pair hr).sublist h.keys
theorem Trk.sub' {g:Gr} {p:Pt} {turn:List (List Int)} {F F':List Face} (h:Trk g p turn F p.darts) (h':Trk g p turn F' p.darts) (hr:p.e.Pairwise (·<·)) {f:Face} (hf:f∈F):f∈F':=by
 obtain⟨l,e⟩:=h.key f hf;have hd:f.1∈flat F':=h'.cover _ (h.sub _ (List.mem_flatten.2 ⟨f.2,List.mem_map.2 ⟨f,hf,rfl⟩,by rw[e];simp⟩));obtain⟨c,hc,hdc⟩:=List.mem_flatten.1 hd;obtain⟨f',hf',rfl⟩:=List.mem_map.1 hc;obtain⟨l',e'⟩:=h'.key f' hf';have hr1:=h.rings.ring f.2 (List.mem_map.2 ⟨f,hf,rfl⟩);have hr2:=h'.rings.ring f'.2 hc;obtain⟨m,hm,hperm⟩:=hr2.from hdc;have hn1:(f.1 :: l).Nodup:=by
  rw[←e];exact (nodup_flat.1 h.rings.nodup).1 _ (List.mem_map.2 ⟨f,hf,rfl⟩)
 have hn2:f'.2.Nodup:=(nodup_flat.1 h'.rings.nodup).1 _ hc;have hn3:(f.1 :: m).Nodup:=hperm.nodup_iff.2 hn2;rw[e] at hr1;have hlm:l=m:=Trail.det (x:=f.1) hr1 hm (List.nodup_cons.1 hn1).1 (List.nodup_cons.1 hn3).1;subst hlm;have h1:f.1≤f'.1:=h.least' hr hf (by rw[e];exact hperm.mem_iff.2 (by rw[e'];simp));have h2:f'.1≤f.1:=h'.least' hr hf' hdc;have hk:f.1=f'.1:=by omega
 rw[e'] at hr2 hn2;rw[←hk] at hr2 hn2;have hll:l=l':=Trail.det (x:=f.1) hr1 hr2 (List.nodup_cons.1 hn1).1 (List.nodup_cons.1 hn2).1;have:f=f':=by
  obtain⟨a,b⟩:=f;obtain⟨a',b'⟩:=f';dsimp only at e e' hk;rw[e,e',hk,hll]
 rw[this];exact hf'
theorem keys_ext:∀ {F F':List Face},(F.map (·.1)).Pairwise (·<·)→(F'.map (·.1)).Pairwise (·<·)→(∀ f,f∈F↔f∈F')→F=F'
 | [],[],_,_,_=>rfl
 | [],f :: F',_,_,h=>by have:=(h f).2 (by simp);simp at this
 | f :: F,[],_,_,h=>by have:=(h f).1 (by simp);simp at this
 | f :: F,f' :: F',h1,h2,h=>by
  rw[List.map_cons,List.pairwise_cons] at h1 h2;have a1:∀ x∈F,f.1<x.1:=fun x hx=>h1.1 x.1 (List.mem_map.2 ⟨x,hx,rfl⟩);have a2:∀ x∈F',f'.1<x.1:=fun x hx=>h2.1 x.1 (List.mem_map.2 ⟨x,hx,rfl⟩);have e:f=f':=by
   rcases List.mem_cons.1 ((h f).1 (by simp)) with q | q
   ·exact q
   rcases List.mem_cons.1 ((h f').2 (by simp)) with r | r
   ·exact r.symm
   have:=a1 _ r;have:=a2 _ q;omega
  subst e;rw[keys_ext h1.2 h2.2 fun x=>⟨fun hx=>?_,fun hx=>?_⟩]
  ·rcases List.mem_cons.1 ((h x).1 (by simp[hx])) with q | q
   ·subst q;have:=a1 _ hx;omega
   exact q
  rcases List.mem_cons.1 ((h x).2 (by simp[hx])) with q | q
  ·subst q;have:=a2 _ hx;omega
  exact q
theorem WalksOk.one {g:Gr} {p:Pt} {turn:List (List Int)} {W W':List Face} (hr:p.e.Pairwise (·<·)) (h:WalksOk g p turn W) (h':WalksOk g p turn W'):W=W':=by
 obtain⟨F,e,k⟩:=h.split;obtain⟨F',e',k'⟩:=h'.split;rw[e,e',keys_ext (k.keysRise hr) (k'.keysRise hr) fun f=>⟨fun hf=>k.sub' k' hr hf,fun hf=>k'.sub' k hr hf⟩]
open Classical in
noncomputable def walksOf (g:Gr) (p:Pt) (turn:List (List Int)):List Face:=if h:∃ W,WalksOk g p turn W then Classical.choose h else []
theorem WalksOk.eq {g:Gr} {p:Pt} {turn:List (List Int)} {W:List Face} (hr:p.err g=0) (h:WalksOk g p turn W):W=walksOf g p turn:=by
 have hex:∃ W,WalksOk g p turn W:=⟨W,h⟩;unfold walksOf;rw[dif_pos hex];exact h.one (rises_pair (Pt.err_ok hr).2.2.1) (Classical.choose_spec hex)
def Flat (g:Gr) (p:Pt) (turn:List (List Int)):Prop:=∀ r∈roots g p,genusAt g p (walksOf g p turn) r=0
open Classical in
noncomputable def flatErr (g:Gr) (p:Pt) (turn:List (List Int)):Int:=if turnErr g p turn≠0 then turnErr g p turn else if Flat g p turn then 0 else 6
theorem flatErr_turn {g:Gr} {p:Pt} {turn:List (List Int)} (h:turnErr g p turn≠0):flatErr g p turn=turnErr g p turn:=if_pos h
theorem flatErr_ok {g:Gr} {p:Pt} {turn:List (List Int)} (h:turnErr g p turn=0) (hf:Flat g p turn):flatErr g p turn=0:=by unfold flatErr;rw[if_neg (by simp[h]),if_pos hf]
theorem flatErr_bad {g:Gr} {p:Pt} {turn:List (List Int)} (h:turnErr g p turn=0) (hf:¬ Flat g p turn):flatErr g p turn=6:=by unfold flatErr;rw[if_neg (by simp[h]),if_neg hf]
theorem flatErr_zero {g:Gr} {p:Pt} {turn:List (List Int)} (h:flatErr g p turn=0):turnErr g p turn=0∧Flat g p turn:=by
 by_cases h1:turnErr g p turn=0
 ·refine⟨h1,Classical.byContradiction fun h2=>?_⟩
  rw[flatErr_bad h1 h2] at h;cases h
 rw[flatErr_turn h1] at h;exact absurd h h1
theorem walks_keys {g:Gr} {p:Pt} {turn:List (List Int)} {W:List Face} (hr:p.err g=0) (h:WalksOk g p turn W):(W.map (·.1)).Pairwise (·<·):=by
 obtain⟨F,rfl,ht⟩:=h.split;rw[List.map_append,List.pairwise_append];have hv:=(Pt.err_ok hr).2.1;have hpo:=Pt.ok_of_err hr;refine⟨?_,ht.keysRise (rises_pair (Pt.err_ok hr).2.2.1),fun x hx y hy=>?_⟩
 ·unfold loneAt
  rw[List.map_map,List.pairwise_map];refine (List.Pairwise.filter _ (List.pairwise_reverse.2 (rises_pair hv))).imp fun {a b} hab=>?_;show -1 - a < -1 - b;omega
 obtain⟨f,hf,rfl⟩:=List.mem_map.1 hx;obtain⟨v,hv2,rfl⟩:=List.mem_map.1 hf;have hvm:=hpo.vr v (List.mem_reverse.1 (List.mem_filter.1 hv2).1);have hd:=ht.keys.subset hy;rw[mem_darts] at hd;have:=hpo.er _ hd;show -1 - v<y;omega
end Go.Proofs.YtmhcmnaecpagiaaGreat.Plain
namespace Go.Proofs.YtmhcmnaecpagiaaGreat
def pcs (V E:Int→List Int) (R:List Int):List Cell:=R.flatMap fun r=>[.row (V r),.row (E r)]
theorem pcs_snoc (V E:Int→List Int) (R:List Int) (r:Int):pcs V E (R++[r])=pcs V E R++[.row (V r),.row (E r)]:=by simp[pcs]
theorem pcs_cons (V E:Int→List Int) (R:List Int) (r:Int):pcs V E (r :: R)=.row (V r) :: .row (E r) :: pcs V E R:=rfl
theorem pcs_even (V E:Int→List Int):∀ (R:List Int) (n:Nat),n<R.length→(pcs V E R)[n*2]?=some (.row (V (R.getD n 0)))
 | [],n,h=>by simp at h
 | r :: R,0,_=>by rw[pcs_cons];rfl
 | r :: R,n+1,h=>by
  rw[pcs_cons,show (n+1)*2=n*2+1+1 by omega,List.getElem?_cons_succ,List.getElem?_cons_succ,pcs_even V E R n (by simpa using h)];rfl
theorem pcs_odd (V E:Int→List Int):∀ (R:List Int) (n:Nat),n<R.length→(pcs V E R)[n*2+1]?=some (.row (E (R.getD n 0)))
 | [],n,h=>by simp at h
 | r :: R,0,_=>by rw[pcs_cons];rfl
 | r :: R,n+1,h=>by
  rw[pcs_cons,show (n+1)*2+1=(n*2+1)+1+1 by omega,List.getElem?_cons_succ,List.getElem?_cons_succ,pcs_odd V E R n (by simpa using h)];rfl
namespace Plain
open Classical in
noncomputable def rootsTo (g:Gr) (p:Pt) (k:Nat):List Int:=(p.v.take k).filter fun v=>decide (∀ u∈p.v,Come g p (-1) v u→v≤u)
theorem rootsTo_zero (g:Gr) (p:Pt):rootsTo g p 0=[]:=by simp[rootsTo]
theorem rootsTo_all (g:Gr) (p:Pt):rootsTo g p p.v.length=roots g p:=by unfold rootsTo roots;rw[List.take_length]
open Classical in
theorem rootsTo_mem {g:Gr} {p:Pt} {k:Nat} {r:Int} (h:r∈rootsTo g p k):r∈roots g p∧r∈p.v.take k:=by
 unfold rootsTo at h;obtain⟨h1,h2⟩:=List.mem_filter.1 h;exact⟨mem_roots.2 ⟨List.mem_of_mem_take h1,of_decide_eq_true h2⟩,h1⟩
open Classical in
theorem rootsTo_snoc {g:Gr} {p:Pt} {k:Nat} (hk:k<p.v.length) (h:p.v.getD k 0∈roots g p):rootsTo g p (k+1)=rootsTo g p k++[p.v.getD k 0]:=by
 unfold rootsTo;have e:p.v.take (k+1)=p.v.take k++[p.v.getD k 0]:=by rw[List.take_succ_eq_append_getElem hk];simp[List.getD,hk]
 rw[e,List.filter_append]
 congr 1
 rw[List.filter_cons_of_pos (by exact decide_eq_true (mem_roots.1 h).2),List.filter_nil]
open Classical in
theorem rootsTo_same {g:Gr} {p:Pt} {k:Nat} (hk:k<p.v.length) (h:p.v.getD k 0 ∉ roots g p):rootsTo g p (k+1)=rootsTo g p k:=by
 unfold rootsTo;have e:p.v.take (k+1)=p.v.take k++[p.v.getD k 0]:=by rw[List.take_succ_eq_append_getElem hk];simp[List.getD,hk]
 have hv:p.v.getD k 0∈p.v:=by simp[List.getD,hk]
 rw[e,List.filter_append,List.filter_cons_of_neg (by
  intro q;exact h (mem_roots.2 ⟨hv,of_decide_eq_true q⟩)),List.filter_nil,List.append_nil]
theorem rootsTo_len (g:Gr) (p:Pt) (k:Nat):(rootsTo g p k).length≤p.v.length:=by
 unfold rootsTo;exact Nat.le_trans (List.length_filter_le _ _) (by rw[List.length_take];omega)
theorem getD_mem {l:List Int} {n:Nat} (h:n<l.length):l.getD n 0∈l:=by simp[List.getD,h]
theorem new_v {g:Gr} {p:Pt} (hp:PartOk g p) {k:Nat} (hk:k<p.v.length):p.v.getD k 0 ∉ p.v.take k:=by
 intro h2;have hnd:=hp.vn;rw[←List.take_append_drop k p.v,List.nodup_append] at hnd;have:p.v.getD k 0∈p.v.drop k:=by
  have e2:p.v.getD k 0=p.v[k]:=by simp[List.getD,hk]
  rw[e2,List.drop_eq_getElem_cons hk];exact List.mem_cons_self
 exact hnd.2.2 _ h2 _ this rfl
end Plain
end Go.Proofs.YtmhcmnaecpagiaaGreat
namespace Go.Proofs.YtmhcmnaecpagiaaGreat
open Go.RowKit Go.Maps
theorem elemPart:Elem 45 27 (.agg #[.slice none 0 0,.slice none 0 0]) 2 48:=⟨Tryz.underlying45,by kernel_rfl,rfl,by decide,by decide⟩
theorem rowNil (w:World) (B:Nat):RowAt w B (.slice none 0 0) []:=⟨World.ownsRow_nil _ _ _ _,by simp,by simp⟩
theorem come_mem {g:Plain.Gr} {p:Plain.Pt} (hp:Plain.PartOk g p) {a y:Int} (ha:a∈p.v) (h:Plain.Come g p (-1) a y):y∈p.v:=by
 induction h with
 | here=>exact ha
 | step _ hn _ _ =>
  obtain⟨e,he,q | q⟩:=hn
  ·have:=(hp.ends e he).2;rw[q] at this;exact this
  have:=(hp.ends e he).1;rw[q] at this;exact this
end Go.Proofs.YtmhcmnaecpagiaaGreat
namespace Go.Proofs.YtmhcmnaecpagiaaGreat
open Go.RowKit Go.Maps
theorem nest_pair {w:World} {B n i:Nat} {e:TypeId} {ov:Value} {xs:List Value} {V E:Int→List Int} {R:List Int} (h:Nest w B e 2 ov n xs (pcs V E R)) (hn:n=R.length) (hi:i<R.length) :
  ∃ g c va vc ea ec,ov=.slice (some ⟨g,0,none⟩) n c∧w.cell? ⟨g,i*2,none⟩=some (.slice va (V (R.getD i 0)).length vc)∧w.cell? ⟨g,i*2+1,none⟩=some (.slice ea (E (R.getD i 0)).length ec)∧RowAt w B (.slice va (V (R.getD i 0)).length vc) (V (R.getD i 0))∧RowAt w B (.slice ea (E (R.getD i 0)).length ec) (E (R.getD i 0)):=by
 obtain⟨g,c,rfl⟩:=h.some (by omega);have hx:=h.cells;have r1:=h.row (pcs_even V E R i hi);have r2:=h.row (pcs_odd V E R i hi);have c1:=h.cell (k:=i*2) (by omega);have c2:=h.cell (k:=i*2+1) (by omega);obtain⟨va,vc,e1⟩:=r1.shape;obtain⟨ea,ec,e2⟩:=r2.shape;rw[e1] at c1 r1;rw[e2] at c2 r2;exact⟨g,c,va,vc,ea,ec,rfl,c1,c2,r1,r2⟩
theorem face_even:∀ (W:List Plain.Face) (i:Nat),i<W.length→(faceCells W)[i*2]?=some (.num (W.getD i (0,[])).1)∧(faceCells W)[i*2+1]?=some (.row (W.getD i (0,[])).2)
 | [],i,h=>by simp at h
 | f :: W,0,_=>⟨rfl,rfl⟩
 | f :: W,i+1,h=>by
  have ih:=face_even W i (by simpa using h);have e:faceCells (f :: W)=.num f.1 :: .row f.2 :: faceCells W:=rfl;rw[e,show (i+1)*2=i*2+1+1 by omega,show i*2+1+1+1=(i*2+1)+1+1 by omega];simp only[List.getElem?_cons_succ,List.getD_cons_succ];exact ih
theorem nest_face {w:World} {B n i:Nat} {e:TypeId} {ov:Value} {xs:List Value} {W:List Plain.Face} (h:Nest w B e 2 ov n xs (faceCells W)) (hn:n=W.length) (hi:i<W.length) :
  ∃ g c va vc,ov=.slice (some ⟨g,0,none⟩) n c∧w.cell? ⟨g,i*2,none⟩=some (.int .i64 (W.getD i (0,[])).1)∧w.cell? ⟨g,i*2+1,none⟩=some (.slice va (W.getD i (0,[])).2.length vc)∧RowAt w B (.slice va (W.getD i (0,[])).2.length vc) (W.getD i (0,[])).2:=by
 obtain⟨g,c,rfl⟩:=h.some (by omega);have hx:=h.cells;have hf:=face_even W i hi;have n1:=h.num hf.1;have r2:=h.row hf.2;have c1:=h.cell (k:=i*2) (by omega);have c2:=h.cell (k:=i*2+1) (by omega);obtain⟨va,vc,e2⟩:=r2.shape;rw[n1] at c1;rw[e2] at c2 r2;exact⟨g,c,va,vc,rfl,c1,c2,r2⟩
namespace Plain
theorem comp_len (g:Gr) (p:Pt) (r:Int):(comp g p r).length≤p.v.length:=by
 unfold comp;exact List.length_filter_le _ _
end Plain
end Go.Proofs.YtmhcmnaecpagiaaGreat
