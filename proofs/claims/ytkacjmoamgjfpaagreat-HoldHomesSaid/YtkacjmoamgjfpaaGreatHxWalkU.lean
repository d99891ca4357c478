/- The walks of turns are determined; the error of turns that are not on spheres. No program here. -/
import Derived.Test.YtkacjmoamgjfpaaGreatHxNext
import Derived.Test.YtkacjmoamgjfpaaGreatHxReachW
namespace Go.Proofs.YtkacjmoamgjfpaaGreat.Plain
theorem darts_pair {p:Pt} (h:p.e.Pairwise (·<·)):p.darts.Pairwise (·<·):=by
 obtain⟨v,e⟩:=p
 unfold Pt.darts
 dsimp only at h ⊢
 induction e with
 | nil=>simp
 | cons a l ih =>
  rw[List.pairwise_cons] at h
  rw[List.flatMap_cons,List.pairwise_append]
  refine⟨by simp;omega,ih h.2,fun x hx y hy=>?_⟩
  obtain⟨b,hb,hy⟩:=List.mem_flatMap.1 hy
  have:=h.1 b hb
  simp at hx hy
  omega
theorem Trk.least' {g:Gr} {p:Pt} {turn:List (List Int)} {F:List Face} (h:Trk g p turn F p.darts) (hr:p.e.Pairwise (·<·)) {f:Face} (hf:f∈F) {y:Int} (hy:y∈f.2):f.1≤y:=by
 obtain⟨a,b,e,ha⟩:=h.least f hf
 have hd:=h.sub y (List.mem_flatten.2 ⟨f.2,List.mem_map.2 ⟨f,hf,rfl⟩,hy⟩)
 have hp:=darts_pair hr
 rw[e] at hd hp
 rcases List.mem_append.1 hd with q | q
 ·exact absurd q (ha y hy)
 rcases List.mem_cons.1 q with q | q
 ·omega
 have:=(List.pairwise_cons.1 (List.pairwise_append.1 hp).2.1).1 y q
 omega
theorem Trk.keysRise {g:Gr} {p:Pt} {turn:List (List Int)} {F:List Face} (h:Trk g p turn F p.darts) (hr:p.e.Pairwise (·<·)):(F.map (·.1)).Pairwise (·<·):=(darts_pair hr).sublist h.keys
theorem Trk.sub' {g:Gr} {p:Pt} {turn:List (List Int)} {F F':List Face} (h:Trk g p turn F p.darts) (h':Trk g p turn F' p.darts) (hr:p.e.Pairwise (·<·)) {f:Face} (hf:f∈F):f∈F':=by
 obtain⟨l,e⟩:=h.key f hf
 have hd:f.1∈flat F':=h'.cover _ (h.sub _ (List.mem_flatten.2 ⟨f.2,List.mem_map.2 ⟨f,hf,rfl⟩,by rw[e];simp⟩))
 obtain⟨c,hc,hdc⟩:=List.mem_flatten.1 hd
 obtain⟨f',hf',rfl⟩:=List.mem_map.1 hc
 obtain⟨l',e'⟩:=h'.key f' hf'
 have hr1:=h.rings.ring f.2 (List.mem_map.2 ⟨f,hf,rfl⟩)
 have hr2:=h'.rings.ring f'.2 hc
 obtain⟨m,hm,hperm⟩:=hr2.from hdc
 have hn1:(f.1 :: l).Nodup:=by
  rw[←e]
  exact (nodup_flat.1 h.rings.nodup).1 _ (List.mem_map.2 ⟨f,hf,rfl⟩)
 have hn2:f'.2.Nodup:=(nodup_flat.1 h'.rings.nodup).1 _ hc
 have hn3:(f.1 :: m).Nodup:=hperm.nodup_iff.2 hn2
 rw[e] at hr1
 have hlm:l=m:=Trail.det (x:=f.1) hr1 hm (List.nodup_cons.1 hn1).1 (List.nodup_cons.1 hn3).1
 subst hlm
 have h1:f.1≤f'.1:=h.least' hr hf (by rw[e];exact hperm.mem_iff.2 (by rw[e'];simp))
 have h2:f'.1≤f.1:=h'.least' hr hf' hdc
 have hk:f.1=f'.1:=by omega
 rw[e'] at hr2 hn2
 rw[←hk] at hr2 hn2
 have hll:l=l':=Trail.det (x:=f.1) hr1 hr2 (List.nodup_cons.1 hn1).1 (List.nodup_cons.1 hn2).1
 have:f=f':=by
  obtain⟨a,b⟩:=f
  obtain⟨a',b'⟩:=f'
  dsimp only at e e' hk
  rw[e,e',hk,hll]
 rw[this]
 exact hf'
theorem keys_ext:∀ {F F':List Face},(F.map (·.1)).Pairwise (·<·)→(F'.map (·.1)).Pairwise (·<·)→(∀ f,f∈F↔f∈F')→F=F'
 | [],[],_,_,_=>rfl
 | [],f :: F',_,_,h=>by have:=(h f).2 (by simp);simp at this
 | f :: F,[],_,_,h=>by have:=(h f).1 (by simp);simp at this
 | f :: F,f' :: F',h1,h2,h=>by
  rw[List.map_cons,List.pairwise_cons] at h1 h2
  have a1:∀ x∈F,f.1<x.1:=fun x hx=>h1.1 x.1 (List.mem_map.2 ⟨x,hx,rfl⟩)
  have a2:∀ x∈F',f'.1<x.1:=fun x hx=>h2.1 x.1 (List.mem_map.2 ⟨x,hx,rfl⟩)
  have e:f=f':=by
   rcases List.mem_cons.1 ((h f).1 (by simp)) with q | q
   ·exact q
   rcases List.mem_cons.1 ((h f').2 (by simp)) with r | r
   ·exact r.symm
   have:=a1 _ r;have:=a2 _ q;omega
  subst e
  rw[keys_ext h1.2 h2.2 fun x=>⟨fun hx=>?_,fun hx=>?_⟩]
  ·rcases List.mem_cons.1 ((h x).1 (by simp[hx])) with q | q
   ·subst q;have:=a1 _ hx;omega
   exact q
  rcases List.mem_cons.1 ((h x).2 (by simp[hx])) with q | q
  ·subst q;have:=a2 _ hx;omega
  exact q
theorem WalksOk.one {g:Gr} {p:Pt} {turn:List (List Int)} {W W':List Face} (hr:p.e.Pairwise (·<·)) (h:WalksOk g p turn W) (h':WalksOk g p turn W'):W=W':=by
 obtain⟨F,e,k⟩:=h.split
 obtain⟨F',e',k'⟩:=h'.split
 rw[e,e',keys_ext (k.keysRise hr) (k'.keysRise hr) fun f=>⟨fun hf=>k.sub' k' hr hf,fun hf=>k'.sub' k hr hf⟩]
open Classical in
noncomputable def walksOf (g:Gr) (p:Pt) (turn:List (List Int)):List Face:=if h:∃ W,WalksOk g p turn W then Classical.choose h else []
theorem WalksOk.eq {g:Gr} {p:Pt} {turn:List (List Int)} {W:List Face} (hr:p.err g=0) (h:WalksOk g p turn W):W=walksOf g p turn:=by
 have hex:∃ W,WalksOk g p turn W:=⟨W,h⟩
 unfold walksOf
 rw[dif_pos hex]
 exact h.one (rises_pair (Pt.err_ok hr).2.2.1) (Classical.choose_spec hex)
def Flat (g:Gr) (p:Pt) (turn:List (List Int)):Prop:=∀ r∈roots g p,genusAt g p (walksOf g p turn) r=0
open Classical in
noncomputable def flatErr (g:Gr) (p:Pt) (turn:List (List Int)):Int:=if turnErr g p turn≠0 then turnErr g p turn else if Flat g p turn then 0 else 6
theorem flatErr_turn {g:Gr} {p:Pt} {turn:List (List Int)} (h:turnErr g p turn≠0):flatErr g p turn=turnErr g p turn:=if_pos h
theorem flatErr_ok {g:Gr} {p:Pt} {turn:List (List Int)} (h:turnErr g p turn=0) (hf:Flat g p turn):flatErr g p turn=0:=by unfold flatErr;rw[if_neg (by simp[h]),if_pos hf]
theorem flatErr_bad {g:Gr} {p:Pt} {turn:List (List Int)} (h:turnErr g p turn=0) (hf:¬ Flat g p turn):flatErr g p turn=6:=by unfold flatErr;rw[if_neg (by simp[h]),if_neg hf]
theorem flatErr_zero {g:Gr} {p:Pt} {turn:List (List Int)} (h:flatErr g p turn=0):turnErr g p turn=0∧Flat g p turn:=by
 by_cases h1:turnErr g p turn=0
 ·refine⟨h1,Classical.byContradiction fun h2=>?_⟩
  rw[flatErr_bad h1 h2] at h;cases h
 rw[flatErr_turn h1] at h;exact absurd h h1
theorem walks_keys {g:Gr} {p:Pt} {turn:List (List Int)} {W:List Face} (hr:p.err g=0) (h:WalksOk g p turn W):(W.map (·.1)).Pairwise (·<·):=by
 obtain⟨F,rfl,ht⟩:=h.split
 rw[List.map_append,List.pairwise_append]
 have hv:=(Pt.err_ok hr).2.1
 have hpo:=Pt.ok_of_err hr
 refine⟨?_,ht.keysRise (rises_pair (Pt.err_ok hr).2.2.1),fun x hx y hy=>?_⟩
 ·unfold loneAt
  rw[List.map_map,List.pairwise_map]
  refine (List.Pairwise.filter _ (List.pairwise_reverse.2 (rises_pair hv))).imp fun {a b} hab=>?_
  show -1 - a < -1 - b
  omega
 obtain⟨f,hf,rfl⟩:=List.mem_map.1 hx
 obtain⟨v,hv2,rfl⟩:=List.mem_map.1 hf
 have hvm:=hpo.vr v (List.mem_reverse.1 (List.mem_filter.1 hv2).1)
 have hd:=ht.keys.subset hy
 rw[mem_darts] at hd
 have:=hpo.er _ hd
 show -1 - v<y
 omega
end Go.Proofs.YtkacjmoamgjfpaaGreat.Plain
namespace Go.Proofs.YtkacjmoamgjfpaaGreat
def pcs (V E:Int→List Int) (R:List Int):List Cell:=R.flatMap fun r=>[.row (V r),.row (E r)]
theorem pcs_snoc (V E:Int→List Int) (R:List Int) (r:Int):pcs V E (R++[r])=pcs V E R++[.row (V r),.row (E r)]:=by simp[pcs]
theorem pcs_cons (V E:Int→List Int) (R:List Int) (r:Int):pcs V E (r :: R)=.row (V r) :: .row (E r) :: pcs V E R:=rfl
theorem pcs_even (V E:Int→List Int):∀ (R:List Int) (n:Nat),n<R.length→(pcs V E R)[n*2]?=some (.row (V (R.getD n 0)))
 | [],n,h=>by simp at h
 | r :: R,0,_=>by rw[pcs_cons];rfl
 | r :: R,n+1,h=>by
  rw[pcs_cons,show (n+1)*2=n*2+1+1 by omega,List.getElem?_cons_succ,List.getElem?_cons_succ,pcs_even V E R n (by simpa using h)]
  rfl
theorem pcs_odd (V E:Int→List Int):∀ (R:List Int) (n:Nat),n<R.length→(pcs V E R)[n*2+1]?=some (.row (E (R.getD n 0)))
 | [],n,h=>by simp at h
 | r :: R,0,_=>by rw[pcs_cons];rfl
 | r :: R,n+1,h=>by
  rw[pcs_cons,show (n+1)*2+1=(n*2+1)+1+1 by omega,List.getElem?_cons_succ,List.getElem?_cons_succ,pcs_odd V E R n (by simpa using h)]
  rfl
theorem pcs_congr {V E V' E':Int→List Int}:∀ {R:List Int},(∀ r∈R,V r=V' r∧E r=E' r)→pcs V E R=pcs V' E' R
 | [],_=>rfl
 | r :: R,h=>by rw[pcs_cons,pcs_cons,(h r (by simp)).1,(h r (by simp)).2,pcs_congr fun s hs=>h s (by simp[hs])]
theorem pcs_set_even {V V' E:Int→List Int}:∀ {R:List Int} {n:Nat},n<R.length→(∀ m,m<R.length→m≠n→V' (R.getD m 0)=V (R.getD m 0))→pcs V' E R=(pcs V E R).set (n*2) (.row (V' (R.getD n 0)))
 | [],n,h,_=>by simp at h
 | r :: R,0,_,hm=>by
  rw[pcs_cons,pcs_cons]
  show _ :: _ :: _=_ :: _ :: _
  congr 2
  refine pcs_congr fun s hs=>⟨?_,rfl⟩
  obtain⟨i,hi,e⟩:=List.getElem_of_mem hs
  have:=hm (i+1) (by simpa using hi) (by omega)
  simpa[List.getD,hi,e] using this
 | r :: R,n+1,h,hm=>by
  have ih:=pcs_set_even (V:=V) (V':=V') (E:=E) (R:=R) (n:=n) (by simpa using h) (fun m hm1 hm2=>by simpa using hm (m+1) (by simpa using hm1) (by omega))
  have h0:=hm 0 (by simp) (by omega)
  rw[pcs_cons,pcs_cons,ih,show (n+1)*2=n*2+1+1 by omega,List.set_cons_succ,List.set_cons_succ]
  simp at h0
  rw[h0]
  rfl
theorem pcs_set_odd {V E E':Int→List Int}:∀ {R:List Int} {n:Nat},n<R.length→(∀ m,m<R.length→m≠n→E' (R.getD m 0)=E (R.getD m 0))→pcs V E' R=(pcs V E R).set (n*2+1) (.row (E' (R.getD n 0)))
 | [],n,h,_=>by simp at h
 | r :: R,0,_,hm=>by
  rw[pcs_cons,pcs_cons]
  show _ :: _ :: _=_ :: _ :: _
  congr 2
  refine pcs_congr fun s hs=>⟨rfl,?_⟩
  obtain⟨i,hi,e⟩:=List.getElem_of_mem hs
  have:=hm (i+1) (by simpa using hi) (by omega)
  simpa[List.getD,hi,e] using this
 | r :: R,n+1,h,hm=>by
  have ih:=pcs_set_odd (V:=V) (E:=E) (E':=E') (R:=R) (n:=n) (by simpa using h) (fun m hm1 hm2=>by simpa using hm (m+1) (by simpa using hm1) (by omega))
  have h0:=hm 0 (by simp) (by omega)
  rw[pcs_cons,pcs_cons,ih,show (n+1)*2+1=(n*2+1)+1+1 by omega,List.set_cons_succ,List.set_cons_succ]
  simp at h0
  rw[h0]
  rfl
namespace Plain
open Classical in
noncomputable def rootsTo (g:Gr) (p:Pt) (k:Nat):List Int:=(p.v.take k).filter fun v=>decide (∀ u∈p.v,Come g p (-1) v u→v≤u)
theorem rootsTo_zero (g:Gr) (p:Pt):rootsTo g p 0=[]:=by simp[rootsTo]
theorem rootsTo_all (g:Gr) (p:Pt):rootsTo g p p.v.length=roots g p:=by unfold rootsTo roots;rw[List.take_length]
open Classical in
theorem rootsTo_mem {g:Gr} {p:Pt} {k:Nat} {r:Int} (h:r∈rootsTo g p k):r∈roots g p∧r∈p.v.take k:=by
 unfold rootsTo at h
 obtain⟨h1,h2⟩:=List.mem_filter.1 h
 exact⟨mem_roots.2 ⟨List.mem_of_mem_take h1,of_decide_eq_true h2⟩,h1⟩
open Classical in
theorem rootsTo_snoc {g:Gr} {p:Pt} {k:Nat} (hk:k<p.v.length) (h:p.v.getD k 0∈roots g p):rootsTo g p (k+1)=rootsTo g p k++[p.v.getD k 0]:=by
 unfold rootsTo
 have e:p.v.take (k+1)=p.v.take k++[p.v.getD k 0]:=by rw[List.take_succ_eq_append_getElem hk];simp[List.getD,hk]
 rw[e,List.filter_append]
 congr 1
 rw[List.filter_cons_of_pos (by exact decide_eq_true (mem_roots.1 h).2),List.filter_nil]
open Classical in
theorem rootsTo_same {g:Gr} {p:Pt} {k:Nat} (hk:k<p.v.length) (h:p.v.getD k 0 ∉ roots g p):rootsTo g p (k+1)=rootsTo g p k:=by
 unfold rootsTo
 have e:p.v.take (k+1)=p.v.take k++[p.v.getD k 0]:=by rw[List.take_succ_eq_append_getElem hk];simp[List.getD,hk]
 have hv:p.v.getD k 0∈p.v:=by simp[List.getD,hk]
 rw[e,List.filter_append,List.filter_cons_of_neg (by
  intro q
  exact h (mem_roots.2 ⟨hv,of_decide_eq_true q⟩)),List.filter_nil,List.append_nil]
theorem rootsTo_len (g:Gr) (p:Pt) (k:Nat):(rootsTo g p k).length≤p.v.length:=by
 unfold rootsTo
 exact Nat.le_trans (List.length_filter_le _ _) (by rw[List.length_take];omega)
theorem getD_mem {l:List Int} {n:Nat} (h:n<l.length):l.getD n 0∈l:=by simp[List.getD,h]
def PieceMap (g:Gr) (p:Pt) (R:List Int) (f:Int→Option Int):Prop:=∀ y i,f y=some i↔∃ n:Nat,i=(n:Int)∧n<R.length∧Come g p (-1) (R.getD n 0) y
theorem PieceMap.start (g:Gr) (p:Pt):PieceMap g p [] (fun _=>none):=fun y i=>by simp
open Classical in
theorem PieceMap.root {g:Gr} {p:Pt} {k:Nat} {f:Int→Option Int} (hp:PartOk g p) (hr:p.v.Pairwise (·<·)) (h:PieceMap g p (rootsTo g p k) f) (hk:k<p.v.length) (hf:f (p.v.getD k 0)=none):p.v.getD k 0∈roots g p:=by
 obtain⟨r,hr1,hc⟩:=root_of (g:=g) (fun v hv=>(hp.vr v hv).1) (getD_mem hk)
 have hle:=(mem_roots.1 hr1).2 _ (getD_mem hk) hc
 by_cases e:r=p.v.getD k 0
 ·rw[←e];exact hr1
 exfalso
 have hrv:=(mem_roots.1 hr1).1
 obtain⟨j,hj,hje⟩:=mem_getD hrv
 have hjk:j<k:=by
  rcases Nat.lt_or_ge j k with q | q
  ·exact q
  exfalso
  rcases Nat.eq_or_lt_of_le q with q | q
  ·subst q;exact e hje.symm
  have:=List.pairwise_iff_getElem.1 hr k j hk hj q
  simp[List.getD,hk,hj] at hje hle
  omega
 have hm:r∈rootsTo g p k:=by
  unfold rootsTo
  refine List.mem_filter.2 ⟨?_,decide_eq_true (mem_roots.1 hr1).2⟩
  rw[←hje]
  have:(p.v.take k)[j]?=some p.v[j]:=by rw[List.getElem?_take,if_pos hjk,List.getElem?_eq_getElem hj]
  have e2:p.v.getD j 0=p.v[j]:=by simp[List.getD,hj]
  rw[e2]
  exact List.mem_of_getElem? this
 obtain⟨n,hn,hne⟩:=mem_getD hm
 have:=(h (p.v.getD k 0) (n:Int)).2 ⟨n,rfl,hn,by rw[hne];exact hc⟩
 rw[hf] at this
 cases this
theorem PieceMap.known {g:Gr} {p:Pt} {k:Nat} {f:Int→Option Int} (hp:PartOk g p) (h:PieceMap g p (rootsTo g p k) f) (hk:k<p.v.length) {i:Int} (hf:f (p.v.getD k 0)=some i):p.v.getD k 0 ∉ roots g p:=by
 intro hr
 obtain⟨n,-,hn,hc⟩:=(h _ _).1 hf
 have hm:=rootsTo_mem (getD_mem hn)
 have e:=root_one (fun v hv=>(hp.vr v hv).1) hm.1 hr hc .here
 have h2:=hm.2
 rw[e] at h2
 have hnd:=hp.vn
 rw[←List.take_append_drop k p.v,List.nodup_append] at hnd
 have:p.v.getD k 0∈p.v.drop k:=by
  have e2:p.v.getD k 0=p.v[k]:=by simp[List.getD,hk]
  rw[e2,List.drop_eq_getElem_cons hk]
  exact List.mem_cons_self
 exact hnd.2.2 _ h2 _ this rfl
theorem PieceMap.add {g:Gr} {p:Pt} {R:List Int} {f f':Int→Option Int} (hp:PartOk g p) (h:PieceMap g p R f) (hR:∀ r∈R,r∈roots g p) {v:Int} (hv:v∈roots g p) (hn:v ∉ R)
  (h1:∀ y,Come g p (-1) v y→f' y=some (R.length:Int)) (h2:∀ y,¬ Come g p (-1) v y→f' y=f y):PieceMap g p (R++[v]) f':=by
 intro y i
 have gl:∀ n,n<R.length→(R++[v]).getD n 0=R.getD n 0:=fun n hn=>by simp[List.getD,List.getElem?_append_left hn]
 have gr:(R++[v]).getD R.length 0=v:=by simp[List.getD]
 by_cases hc:Come g p (-1) v y
 ·rw[h1 y hc]
  constructor
  ·intro e
   cases e
   exact⟨R.length,rfl,by simp,by rw[gr];exact hc⟩
  rintro ⟨n,rfl,hn1,hn2⟩
  by_cases e:n<R.length
  ·rw[gl n e] at hn2
   exact absurd (root_one (fun v hv=>(hp.vr v hv).1) (hR _ (getD_mem e)) hv hn2 hc ▸ getD_mem e) hn
  have:n=R.length:=by simp at hn1;omega
  rw[this]
 rw[h2 y hc,h y i]
 constructor
 ·rintro ⟨n,rfl,hn1,hn2⟩
  exact⟨n,rfl,by simp;omega,by rw[gl n hn1];exact hn2⟩
 rintro ⟨n,rfl,hn1,hn2⟩
 by_cases e:n<R.length
 ·rw[gl n e] at hn2
  exact⟨n,rfl,e,hn2⟩
 have e2:n=R.length:=by simp at hn1;omega
 rw[e2,gr] at hn2
 exact absurd hn2 hc
noncomputable def vOf (g:Gr) (p:Pt) (k:Nat) (r:Int):List Int:=(p.v.take k).filter fun v=>decide (v∈comp g p r)
noncomputable def eOf (g:Gr) (p:Pt) (k:Nat) (r:Int):List Int:=(p.e.take k).filter fun e=>decide (g.tail (2*e)∈comp g p r)
theorem take_snoc' {l:List Int} {j:Nat} (hj:j<l.length):l.take (j+1)=l.take j++[l.getD j 0]:=by
 rw[List.take_succ_eq_append_getElem hj]
 simp[List.getD,hj]
theorem vOf_in {g:Gr} {p:Pt} {k:Nat} {r:Int} (hk:k<p.v.length) (h:p.v.getD k 0∈comp g p r):vOf g p (k+1) r=vOf g p k r++[p.v.getD k 0]:=by
 unfold vOf
 rw[take_snoc' hk,List.filter_append,List.filter_cons_of_pos (by simpa using h),List.filter_nil]
theorem vOf_out {g:Gr} {p:Pt} {k:Nat} {r:Int} (hk:k<p.v.length) (h:p.v.getD k 0 ∉ comp g p r):vOf g p (k+1) r=vOf g p k r:=by
 unfold vOf
 rw[take_snoc' hk,List.filter_append,List.filter_cons_of_neg (by simpa using h),List.filter_nil,List.append_nil]
theorem eOf_in {g:Gr} {p:Pt} {k:Nat} {r:Int} (hk:k<p.e.length) (h:g.tail (2*p.e.getD k 0)∈comp g p r):eOf g p (k+1) r=eOf g p k r++[p.e.getD k 0]:=by
 unfold eOf
 rw[take_snoc' hk,List.filter_append,List.filter_cons_of_pos (by simpa using h),List.filter_nil]
theorem eOf_out {g:Gr} {p:Pt} {k:Nat} {r:Int} (hk:k<p.e.length) (h:g.tail (2*p.e.getD k 0) ∉ comp g p r):eOf g p (k+1) r=eOf g p k r:=by
 unfold eOf
 rw[take_snoc' hk,List.filter_append,List.filter_cons_of_neg (by simpa using h),List.filter_nil,List.append_nil]
theorem comp_one {g:Gr} {p:Pt} (hp:PartOk g p) {R:List Int} (hR:∀ r∈R,r∈roots g p) (hn:R.Nodup) {v:Int} {n m:Nat} (h1:n<R.length) (h2:m<R.length) (hc:Come g p (-1) (R.getD n 0) v) (hm:v∈comp g p (R.getD m 0)):m=n:=by
 have e:=root_one (fun v hv=>(hp.vr v hv).1) (hR _ (getD_mem h1)) (hR _ (getD_mem h2)) hc (mem_comp.1 hm).2
 refine Classical.byContradiction fun hne=>?_
 have q:=List.pairwise_iff_getElem.1 hn
 simp only[List.getD,List.getElem?_eq_getElem h1,List.getElem?_eq_getElem h2,Option.getD_some] at e
 rcases Nat.lt_or_ge n m with w | w
 ·exact q n m h1 h2 w e
 exact q m n h2 h1 (by omega) e.symm
theorem rootsTo_nodup {g:Gr} {p:Pt} (hp:PartOk g p) (k:Nat):(rootsTo g p k).Nodup:=by
 unfold rootsTo
 exact ((List.take_sublist k p.v).nodup hp.vn).filter _
theorem new_v {g:Gr} {p:Pt} (hp:PartOk g p) {k:Nat} (hk:k<p.v.length):p.v.getD k 0 ∉ p.v.take k:=by
 intro h2
 have hnd:=hp.vn
 rw[←List.take_append_drop k p.v,List.nodup_append] at hnd
 have:p.v.getD k 0∈p.v.drop k:=by
  have e2:p.v.getD k 0=p.v[k]:=by simp[List.getD,hk]
  rw[e2,List.drop_eq_getElem_cons hk]
  exact List.mem_cons_self
 exact hnd.2.2 _ h2 _ this rfl
theorem vOf_root {g:Gr} {p:Pt} (hr:p.v.Pairwise (·<·)) {k:Nat} (hk:k<p.v.length) (h:p.v.getD k 0∈roots g p):vOf g p k (p.v.getD k 0)=[]:=by
 unfold vOf
 rw[List.filter_eq_nil_iff]
 intro u hu hc
 have hc:=(mem_comp.1 (of_decide_eq_true hc))
 have h1:=(mem_roots.1 h).2 u hc.1 hc.2
 obtain⟨j,hj,e⟩:=List.getElem_of_mem hu
 rw[List.length_take] at hj
 rw[List.getElem_take] at e
 have:=List.pairwise_iff_getElem.1 hr j k (by omega) hk (by omega)
 simp[List.getD,hk] at h1
 omega
theorem eOf_zero (g:Gr) (p:Pt) (r:Int):eOf g p 0 r=[]:=by simp[eOf]
open Classical in
theorem vOf_all (g:Gr) (p:Pt) (r:Int):vOf g p p.v.length r=comp g p r:=by
 unfold vOf
 rw[List.take_length]
 conv=>rhs;unfold comp
 refine List.filter_congr fun v hv=>?_
 have:=mem_comp (g:=g) (p:=p) (a:=r) (u:=v)
 simp[this,hv]
theorem eOf_all {g:Gr} {p:Pt} (h:PartOk g p) (r:Int):eOf g p p.e.length r=(p.sub g (comp g p r)).e:=by
 unfold eOf
 rw[List.take_length,sub_edges h r]
end Plain
end Go.Proofs.YtkacjmoamgjfpaaGreat
namespace Go.Proofs.YtkacjmoamgjfpaaGreat
open Go.RowKit Go.Maps
theorem elemPart:Elem 74 29 (.agg #[.slice none 0 0,.slice none 0 0]) 2 48:=⟨Tryz.underlying74,by kernel_rfl,rfl,by decide,by decide⟩
theorem rowNil (w:World) (B:Nat):RowAt w B (.slice none 0 0) []:=⟨World.ownsRow_nil _ _ _ _,by simp,by simp⟩
theorem nest_lengthen {w:World} {B n sz g cap q:Nat} {e:TypeId} {xs:List Value} {cs:List Cell} {l:List Int} {x:Int} (h:Nest w B e sz (.slice (some ⟨g,0,none⟩) n cap) n xs cs) (he:e≠3) (hB:B≤w.heap.size) (hq:q<xs.length) (hc:cs[q]?=some (.row l)) (hx:I64 x) (hn:l.length+1<4294967296) :
  ∃ va vc va' vc' w2,w.cell? ⟨g,q,none⟩=some (.slice va l.length vc)∧(Builtin.append_ #[27,27] 27 #[.slice va l.length vc,.slice (some ⟨w.heap.size,0,none⟩) 1 1]).run Tryz.prog (w.alloc (.cells #[.int .i64 x] 3))=.ok (.slice va' (l.length+1) vc') w2 ∧
   w2.cell? ⟨g,q,none⟩=some (.slice va l.length vc)∧w2.frozen? ⟨g,q,none⟩=false ∧
   Nest (w2.setCell ⟨g,q,none⟩ (.slice va' (l.length+1) vc')) B e sz (.slice (some ⟨g,0,none⟩) n cap) n (xs.set q (.slice va' (l.length+1) vc')) (cs.set q (.row (l++[x]))) ∧
   ∃ own,Chg own w (w2.setCell ⟨g,q,none⟩ (.slice va' (l.length+1) vc'))∧∀ j∈own,B≤j∧∃ cs t r,w.heap[j]?=some (.cells cs t r):=by
 have hrow:=h.row hc
 obtain⟨va,vc,ev⟩:=hrow.shape
 have hcell:=h.cell hq
 rw[ev] at hcell hrow
 have ca:Chg [] w (w.alloc (.cells #[.int .i64 x] 3)):=(Chg.refl _ _).alloc _
 obtain⟨v',w2,hr,r1,r2,r3⟩:=run_app_read (hrow.chg ca (by simp)) (lit_ints w hx) (Nat.le_trans hB ca.size) (by simp;omega) 27
 obtain⟨va',vc',ev'⟩:=r1.shape
 rw[show (l++[x]).length=l.length+1 by simp] at ev'
 subst ev'
 have hc2:Chg (foot (.slice va l.length vc)) w w2:=(ca.mono (by simp)).trans r2 (fun j hj=>Or.inl hj)
 have hfg:g ∉ foot (.slice va l.length vc):=fun em=>by
  obtain⟨cs',r,hh⟩:=row_kind hrow g em
  rcases h.out.2 with ⟨q,_⟩ | ⟨g',c',cur,q,_,hg,_⟩
  ·cases q
  simp only[Value.slice.injEq,Option.some.injEq,Addr.mk.injEq] at q
  obtain⟨⟨rfl,-⟩,-⟩:=q
  rw[hg] at hh
  simp at hh
  exact he hh.2.1
 have hcell2:=hc2.cell hcell hfg
 have hput:=h.put (v:=.slice va' (l.length+1) vc') (m:=l++[x]) he hq hc r1 (by rw[ev];exact hc2) (fun b hb=>by
  rw[ev]
  rcases r3 b hb with t | t
  ·exact Or.inl t
  exact Or.inr (Nat.le_trans ca.size t))
 have hgh:∃ cur,w.heap[g]?=some (.cells cur e (0,0))∧B≤g:=by
  rcases h.out.2 with ⟨q,_⟩ | ⟨g',c',cur,q,hb,hg,_⟩
  ·cases q
  simp only[Value.slice.injEq,Option.some.injEq,Addr.mk.injEq] at q
  obtain⟨⟨rfl,-⟩,-⟩:=q
  exact⟨_,hg,hb⟩
 obtain⟨cur,hg,hgB⟩:=hgh
 have hg2:=hc2.heap hg hfg
 have hset:Chg [g] w2 (w2.setCell ⟨g,q,none⟩ (.slice va' (l.length+1) vc')):=(Chg.refl _ _).setCell (Or.inl (by simp)) _
 refine⟨va,vc,va',vc',w2,hcell,hr,hcell2,by simp[World.frozen?,hg2],hput,g :: foot (.slice va l.length vc),(hc2.mono (fun j hj=>Or.inl (by simp[hj]))).trans hset (fun j hj=>Or.inl (by simp at hj;simp[hj])),fun j hj=>?_⟩
 rcases List.mem_cons.1 hj with t | t
 ·rw[t];exact⟨hgB,_,_,_,hg⟩
 obtain⟨cs',r,hh⟩:=row_kind hrow j t
 exact⟨(hrow.low j (by rw[←hrow.foot];exact t)).1,_,_,_,hh⟩
theorem come_mem {g:Plain.Gr} {p:Plain.Pt} (hp:Plain.PartOk g p) {a y:Int} (ha:a∈p.v) (h:Plain.Come g p (-1) a y):y∈p.v:=by
 induction h with
 | here=>exact ha
 | step _ hn _ _ =>
  obtain⟨e,he,q | q⟩:=hn
  ·have:=(hp.ends e he).2;rw[q] at this;exact this
  have:=(hp.ends e he).1;rw[q] at this;exact this
theorem litSame (x y:Int):(Lit.int .i64 y).sameKey (.int .i64 x)=decide (y=x):=by
 simp[Lit.sameKey]
set_option maxRecDepth 100000 in
set_option maxHeartbeats 4000000 in
theorem pieces_any (vg vp:Value) (g:Plain.Gr) (p:Plain.Pt) (w:World) (hpl:p.e.length≤100000) (hpv:p.v.length≤100000) (hg:GrAt w vg g) (hp:PtAt w vp p) :
  Calls Tryz.prog 124 #[vg,vp] w fun e w'=>∃ ov,e=.returned (.tuple #[ov,.int .i64 (p.err g)])∧(p.err g≠0→ov=.slice none 0 0) ∧
   (p.err g=0→∃ xs,Nest w' w.heap.size 29 2 ov (Plain.roots g p).length xs (pcs (Plain.comp g p) (fun r=>(p.sub g (Plain.comp g p r)).e) (Plain.roots g p)))∧Chg [] w w':=by
 have HG:=lh hg
 have HP:=lh hp
 obtain⟨eo,cap,rfl,hn,hm,hsm,hcell⟩:=hg
 obtain⟨v1,v2,rfl,hv,he⟩:=hp
 obtain⟨ao,ac,rfl,has,ham,hacell⟩:=hv
 obtain⟨bo,bc,rfl,hbs,hbm,hbcell⟩:=he
 have HCE:=lh hcell
 have HAC:=lh hacell
 have HBC:=lh hbcell
 have HSM:=lh hsm
 obtain⟨hb1,hb2,hc1⟩:=box_two w #[.int .i64 g.n,.slice eo g.e.length cap] #[.slice ao p.v.length ac,.slice bo p.e.length bc] 24 29
 have X0:=lh ((cell_of_row _ _ 0 _ _ _ hb1).trans (show _=some (Value.int .i64 g.n) from rfl))
 have X1:=lh ((cell_of_row _ _ 1 _ _ _ hb1).trans (show _=some (Value.slice eo g.e.length cap) from rfl))
 have Y0:=lh ((cell_of_row _ _ 0 _ _ _ hb2).trans (show _=some (Value.slice ao p.v.length ac) from rfl))
 have Y1:=lh ((cell_of_row _ _ 1 _ _ _ hb2).trans (show _=some (Value.slice bo p.e.length bc) from rfl))
 have HC1:=lh hc1
 clear hcell hacell hbcell hsm hbs has hn hb1 hb2 hc1
 go_enter Tryz.func124,Tryz.ntmps124
 go_wp2_with fail
 refine (rightPart_any _ _ g p _ (by omega) (HG.out.fresh HC1.out) (HP.out.fresh HC1.out)).mono ?_
 rintro e w2 ⟨rfl,hc2⟩
 have HC2:=lh (HC1.out.trans hc2 (by simp))
 have x0:=hc2.cell X0.out (by simp)
 have x1:=hc2.cell X1.out (by simp)
 have y0:=hc2.cell Y0.out (by simp)
 have y1:=hc2.cell Y1.out (by simp)
 have HSZ2:=lh (show w.heap.size+2≤w2.heap.size by have:=hc2.size;simpa using this)
 clear hc2
 by_cases hr:p.err g=0
 ·have HR:=lh hr
  rw[hr]
  have HPO:=lh (Plain.Pt.ok_of_err hr)
  have HRI:=lh (Plain.rises_pair (Plain.Pt.err_ok hr).2.1)
  have HGN:=lh (Plain.Gr.err_ok (Plain.Pt.err_ok hr).1).2.1
  go_wp2_with fail
  refine (leaving_any _ _ g p _ (by omega) hr (HG.out.fresh HC2.out) (HP.out.fresh HC2.out)).mono ?_
  rintro e w3 ⟨db,rfl,hsmap,hc3,hdb⟩
  have HSD:=lh hsmap
  have HC3:=lh (HC2.out.trans hc3 (by simp))
  have X03:=lh (hc3.cell x0 (by simp))
  have X13:=lh (hc3.cell x1 (by simp))
  have y03:=hc3.cell y0 (by simp)
  have y03n:=fun o=>cellNew y03 o
  have Y13:=lh (hc3.cell y1 (by simp))
  have hmm:=@run_makeMap Tryz.prog
  have HSZ3:=lh (show w.heap.size+2≤w3.heap.size by have:=hc3.size;have:=HSZ2.out;omega)
  clear hc3 hsmap x0 x1 y0 y1 hr hdb
  go_wp2
  clear hmm y03 y03n
  have HM0:=lh (IMap.made w3)
  have HC4:=lh ((Chg.refl [] w3).alloc (.map #[] 0))
  generalize hw4:w3.alloc (.map #[] 0)=w4 at *
  clear hw4
  go_loopw [9,32] (fun c9 c wr=>∃ (k:Nat) (f:Int→Option Int) (xs:List Value),k≤p.v.length∧c=.int .i64 k∧IMap wr w3.heap.size (k*1000000) f∧Hid (Plain.PieceMap g p (Plain.rootsTo g p k) f)∧Nest wr w3.heap.size 29 2 c9 (Plain.rootsTo g p k).length xs (pcs (Plain.vOf g p k) (Plain.eOf g p 0) (Plain.rootsTo g p k))∧Chg [] w3 wr) (fun _ c _=>p.v.length - (intOf c).toNat)
  case atStart=>exact⟨0,_,[],Nat.zero_le _,rfl,by rw[Nat.zero_mul];exact HM0.out,lh (by rw[Plain.rootsTo_zero];exact Plain.PieceMap.start g p),by rw[Plain.rootsTo_zero];exact Nest.nil _ _ _ _,HC4.out⟩
  case round =>
   obtain⟨k,f,xs,hk,rfl,hm,hpm,hne,hc⟩:=hrel
   have HM:=lh hm
   have HNE:=lh hne
   have HC:=lh hc
   by_cases hlt:k<p.v.length
   ·obtain⟨ab,aoff,rfl,hca⟩:=HAC.out (by intro e;rw[e] at hlt;simp at hlt)
    have ck:=HC.out.cell (HC3.out.cell (hca k hlt) (by simp)) (by simp)
    have hvm:=Plain.getD_mem hlt
    have hvr:=HPO.out.vr _ hvm
    have HRT:=lh (fun h=>hpm.out.root HPO.out HRI.out hlt h)
    have HKN:=lh (fun i (h:f _=some i)=>hpm.out.known HPO.out hlt h)
    have HSN:=lh (Plain.rootsTo_snoc (g:=g) hlt)
    have HSS:=lh (Plain.rootsTo_same (g:=g) hlt)
    have HVI:=lh (fun r=>Plain.vOf_in (g:=g) (r:=r) hlt)
    have HVO:=lh (fun r=>Plain.vOf_out (g:=g) (r:=r) hlt)
    have HVR:=lh (Plain.vOf_root (g:=g) HRI.out hlt)
    have HNV:=lh (Plain.new_v HPO.out hlt)
    have HLT:=lh hlt
    obtain⟨v,hve⟩:∃ v,p.v.getD k 0=v:=⟨_,rfl⟩
    rw[hve] at ck hvm hvr HRT HKN HSN HSS HVI HVO HVR HNV
    have IV:I64 v:=I64.mk (by omega) (by have:=HGN.out;omega)
    have HVM:=lh hvm
    obtain⟨uo,uc,rfl⟩:=hne.shape
    clear hve hca hm hne hc hvm
    obtain⟨u1,hu1⟩:∃ u1,(f v).getD 0=u1:=⟨_,rfl⟩
    obtain⟨t1,ht1⟩:∃ t1,(f v).isSome=t1:=⟨_,rfl⟩
    have HV1:=lh hu1
    have HT1:=lh ht1
    clear hu1 ht1
    go_upto_if 43 with (at_lookup;refine wp_look_any _ rfl _ _ rfl HM.out rfl IV rfl HV1 HT1 ?_)
    go_cut [9] (fun c9 wc=>∃ (f:Int→Option Int) (xs:List Value),IMap wc w3.heap.size (k*1000000+1000000) f∧Hid (Plain.PieceMap g p (Plain.rootsTo g p (k+1)) f)∧Nest wc w3.heap.size 29 2 c9 (Plain.rootsTo g p (k+1)).length xs (pcs (Plain.vOf g p k) (Plain.eOf g p 0) (Plain.rootsTo g p (k+1)))∧Chg [] w3 wc∧Hid (∃ n:Nat,f v=some (n:Int)∧n<(Plain.rootsTo g p (k+1)).length∧Plain.Come g p (-1) ((Plain.rootsTo g p (k+1)).getD n 0) v))
    case first =>
     cases hfv:f v with
     | some i =>
      have HE:=lh (HSS.out (HKN.out i hfv))
      have HNX:=lh ((hpm.out v i).1 hfv)
      obtain rfl:t1=true:=by rw[←HT1.out,hfv];rfl
      have HFV:=lh hfv
      clear hfv
      go_wp2
      go_meet
      case rel =>
       refine⟨f,xs,HM.out.mono (by omega),by rw[HE.out];exact hpm,by rw[HE.out];exact HNE.out,HC.out,?_⟩
       obtain⟨n,e,hn1,hn2⟩:=HNX.out
       exact lh ⟨n,by rw[HFV.out,e],by rw[HE.out];exact hn1,by rw[HE.out];exact hn2⟩
     | none =>
      obtain rfl:t1=false:=by rw[←HT1.out,hfv];rfl
      have HRV:=lh (HRT.out hfv)
      have HE:=lh (HSN.out HRV.out)
      have x0w:=HC.out.cell X03.out (by simp)
      have x1w:=HC.out.cell X13.out (by simp)
      clear hfv
      go_wp2_with fail
      refine (reach_any _ g p db (2*p.e.length) v (-1) _ (by omega) (by omega) HR.out HVM.out IV (I64.mk (by omega) (by omega)) (HG.out.fresh (HC3.out.trans HC.out (by simp))) (HSD.out.fresh HC.out)).mono ?_
      rintro e w5 ⟨rk,m,fr,rfl,hmr,hfr,hc5,hrk,hmn⟩
      obtain⟨Dm,hown,hDm⟩:=hmr
      have HDM:=lh hDm
      have HOWN:=lh hown
      have HFR:=lh hfr
      have HM5:=lh (HM.out.chg hc5 (by simp))
      have HNE5:=lh (HNE.out.fresh hc5)
      have HC5:=lh (HC.out.trans hc5 (by simp))
      have hszd:=hown.size_le
      have hrkl:=hown.lt
      have hwl:=HM.out.lt
      have HWL:=lh hwl
      have HRKN:=lh (show rk≠w3.heap.size by omega)
      have HRKL:=lh hrkl
      clear hDm hfr hc5 x0w x1w hrkl hwl hrk
      go_wp2_with (at_range;refine wpList_range_own _ rfl _ 93 rfl 3 3 keyedInt Tryz.underlying93 _ rk m Dm rfl hown ?_;intro w6 hrg0 hg0 hs0)
      go_frame
      have HSZ5:=lh (show w3.heap.size<w5.heap.size from HM5.out.lt)
      have HRG0:=lh hrg0
      have HG0:=lh hg0
      have hlen:(Plain.rootsTo g p k).length≤100000:=Nat.le_trans (Plain.rootsTo_len g p k) hpv
      clear hg0 hs0 hown
      obtain⟨len,hle⟩:∃ len,(Plain.rootsTo g p k).length=len:=⟨_,rfl⟩
      have HLE:=lh hle
      have HNE6:=lh (show Nest w5 w3.heap.size 29 2 (.slice uo len uc) len xs (pcs (Plain.vOf g p k) (Plain.eOf g p 0) (Plain.rootsTo g p k)) by rw[←hle];exact HNE5.out)
      rw[hle] at hlen ⊢
      clear hle HNE5
      have IL:I64 (len:Int):=I64.mk (by omega) (by omega)
      go_loopw [14] (fun _ wi=>∃ (left:Lit→Bool) (cnt:Nat) (f':Int→Option Int) (n':Nat),wi.ranges Tryz.prog 3 (plainElem Tryz.prog 3) rk w5.heap.size m Dm left cnt∧IMap wi w3.heap.size n' f'∧n'+cnt≤k*1000000+1000000∧Hid (∀ z,left z=true→Maps.has Dm z=true)∧Hid (∀ y,(fr y≠none→left (.int .i64 y)=false→f' y=some (len:Int))∧(fr y=none∨left (.int .i64 y)=true→f' y=f y))∧Hid (Chg [w3.heap.size] w5 wi)) (fun _ wi=>wi.rangeLeft rk w5.heap.size)
      case atStart=>exact⟨_,_,f,_,hrg0,HM5.out.kept HG0.out (by simp),by omega,lh (fun z h=>h),lh (fun y=>⟨fun h1 h2=>by
        have iy:I64 y:=by
         have:=HPO.out.vr y (come_mem HPO.out HVM.out ((HFR.out y).1 h1))
         exact I64.mk (by omega) (by have:=HGN.out;omega)
        rw[(HDM.out y iy).1] at h2
        exact absurd (by simpa using h2) h1,fun _=>rfl⟩),lh ((Chg.refl [w3.heap.size] w5).grown HG0.out (by simp))⟩
      case round =>
       obtain⟨left,cnt,f',n',hrg,hm',hcn,hlh,hff,hch⟩:=hrel
       have HM':=lh hm'
       clear hm'
       go_wp2_with (at_next;refine wpList_next_ranges_ii _ rfl _ rfl 3 3 .i64 .i64 keyedInt Tryz.underlying3 Tryz.underlying3 rk w5.heap.size m _ _ _ rfl hrg ?_ ?_)
       ·intro hc0 hl0
        have HCH:=lh ((Chg.refl [w3.heap.size] w5).trans hch.out (fun j hj=>Or.inl hj))
        have HNI:=lh (HNE6.out.other hch.out (fun j hj cs t r hh=>by simp at hj;subst hj;exact absurd rfl (HM5.out.ne hh)))
        have HWB:=lh (show w3.heap.size≤wr.heap.size by have:=HSZ5.out;have:=hch.out.size;omega)
        have HCW:=lh (HC5.out.trans hch.out (fun j hj=>Or.inr (by simp at hj;omega)))
        have HPM:=lh (show Plain.PieceMap g p (Plain.rootsTo g p (k+1)) f' by
         rw[HE.out]
         refine hpm.out.add HPO.out (fun r hr=>(Plain.rootsTo_mem hr).1) HRV.out (fun h=>HNV.out (Plain.rootsTo_mem h).2) (fun y hy=>?_) (fun y hy=>?_)
         ·rw[HLE.out]
          exact (hff.out y).1 ((HFR.out y).2 hy) (hl0 _)
         exact (hff.out y).2 (Or.inl (Classical.byContradiction fun h=>hy ((HFR.out y).1 h))))
        have HFV:=lh (show f' v=some (len:Int) from (hff.out v).1 ((HFR.out v).2 .here) (hl0 _))
        have HCN:=lh (show n'≤k*1000000+1000000 by omega)
        clear hrg hlh hff hch hl0 hc0
        go_wp2_with (at_builtin;refine wp_app elemPart rfl (.tmp 57) (.tmp 59) rfl (v:=.slice uo len uc) rfl rfl rfl HNI.out.out HWB.out rfl (by intro u hu;simp at hu;rw[hu];rfl) (by omega) ?_;intro g4 cap4 w9 r9 c9 l9;have R9:=lh r9;have C9:=lh c9;clear r9 c9 l9;go_frame)
        go_meet
        case rel =>
         have hadd:=HNI.out.add (us:=[.slice none 0 0,.slice none 0 0]) (ds:=[.row [],.row []]) (by decide) rfl rfl (fun i d hi=>by
          rcases i with _ | _ | i
          ·simp at hi;subst hi;exact rowNil _ _
          ·simp at hi;subst hi;exact rowNil _ _
          ·simp at hi) (fun i j hi hj hne=>by
          simp at hi
          rcases i with _ | _ | i
          ·exact Or.inl rfl
          ·exact Or.inl rfl
          ·omega) (fun i j b hi hj hb e=>by
          simp at hj
          rcases j with _ | _ | j
          ·simp[Value.ownBlock] at e
          ·simp[Value.ownBlock] at e
          omega) R9.out C9.out
         have hpcs:pcs (Plain.vOf g p k) (Plain.eOf g p 0) (Plain.rootsTo g p (k+1))=pcs (Plain.vOf g p k) (Plain.eOf g p 0) (Plain.rootsTo g p k)++[.row [],.row []]:=by
          rw[HE.out,pcs_snoc,HVR.out HRV.out,Plain.eOf_zero]
         have hlen2:(Plain.rootsTo g p (k+1)).length=len+1:=by rw[HE.out,List.length_append,HLE.out];rfl
         refine⟨f',_,(HM'.out.mono HCN.out).chg C9.out (fun e=>?_),HPM,by rw[hpcs,hlen2];exact hadd,HCW.out.trans C9.out (fun j hj=>Or.inr (HNI.out.out.lt j (by simpa using hj)).1),lh ⟨len,HFV.out,by rw[hlen2];omega,?_⟩⟩
         ·rcases HNI.out.out.2 with ⟨q,_⟩ | ⟨g',c',cur,q,_,hg,_⟩
          ·rw[q] at e;simp[Value.ownBlock] at e
          rw[q] at e;simp[Value.ownBlock] at e;subst e;exact HM'.out.ne hg rfl
         rw[HE.out]
         simp only[List.getD,←HLE.out,List.getElem?_append_right (Nat.le_refl _),Nat.sub_self,List.getElem?_cons_zero,Option.getD_some]
         exact .here
       intro x c w7 cnt1 hwx hwc hlx hat hrg1 hlt1 hg1 hs1 hen
       have HM7:=lh (HM'.out.kept hg1 (by intro e;have:=Option.some.inj e;have:=HSZ5.out;omega))
       have hn':n'<maxLen:=by unfold maxLen;omega
       go_wp2_with (at_mapUpdate;refine wp_store _ rfl _ _ _ rfl HM7.out hn' rfl hwx IL rfl rfl ?_;intro w8 m8 g8;have M8:=lh m8;have G8:=lh g8;clear m8 g8;go_frame)
       have hrg2:=hrg1.kept G8.out (fun e=>HRKN.out (Option.some.inj e)) (fun e=>by have:=Option.some.inj e;have:=HSZ5.out;omega)
       go_roundw
       case rel =>
        refine⟨_,cnt1,_,n'+1,hrg2,M8.out,by omega,lh (fun z hz=>hlh.out z (by simp at hz;exact hz.1)),lh (fun y=>?_),lh ((hch.out.grown hg1 (fun j hj=>Or.inr (by cases hj;exact Nat.le_refl _))).grown G8.out (fun j hj=>Or.inl (by cases hj;simp)))⟩
        have hfx:fr x≠none:=by
         have:=hlh.out _ hlx
         rw[(HDM.out x hwx).1] at this
         exact Option.isSome_iff_ne_none.1 this
        rw[litSame]
        by_cases e:y=x
        ·subst e
         exact⟨fun _ _=>by rw[if_pos rfl],fun h=>by rcases h with h | h;exact absurd h hfx;simp at h⟩
        rw[if_neg e]
        simp only[e,decide_false,Bool.not_false,Bool.and_true]
        exact hff.out y
       case measure=>rw[hrg2.left_eq,hrg.left_eq];exact hlt1
    case rest =>
     obtain⟨f2,xs2,hm2,hpm2,hne2,hc2',hex⟩:=hcut
     obtain⟨n,hfn,hnl,hcome⟩:=hex.out
     have hlenR:(Plain.rootsTo g p (k+1)).length≤100000:=Nat.le_trans (Plain.rootsTo_len g p (k+1)) hpv
     have hRR:∀ r∈Plain.rootsTo g p (k+1),r∈Plain.roots g p:=fun r hr=>(Plain.rootsTo_mem hr).1
     have hcv:v∈Plain.comp g p ((Plain.rootsTo g p (k+1)).getD n 0):=Plain.mem_comp.2 ⟨HVM.out,hcome⟩
     have HPC:=lh (show pcs (Plain.vOf g p (k+1)) (Plain.eOf g p 0) (Plain.rootsTo g p (k+1))=(pcs (Plain.vOf g p k) (Plain.eOf g p 0) (Plain.rootsTo g p (k+1))).set (n*2) (.row (Plain.vOf g p k ((Plain.rootsTo g p (k+1)).getD n 0)++[v])) by
      rw[←HVI.out _ hcv]
      exact pcs_set_even hnl (fun m hm hmn=>HVO.out _ (fun hmem=>hmn (Plain.comp_one HPO.out hRR (Plain.rootsTo_nodup HPO.out _) hnl hm hcome hmem))))
     have hce:=pcs_even (Plain.vOf g p k) (Plain.eOf g p 0) _ n hnl
     have hvl:(Plain.vOf g p k ((Plain.rootsTo g p (k+1)).getD n 0)).length≤100000:=by
      unfold Plain.vOf
      refine Nat.le_trans (List.length_filter_le _ _) ?_
      rw[List.length_take];omega
     obtain⟨og,oc,rfl⟩:=hne2.some (by omega)
     have hxl:=hne2.cells
     obtain⟨va,vc,va',vc',w8,p1,p2,p3,p4,p5,own,p6,p7⟩:=nest_lengthen hne2 (q:=n*2) (by decide) hc2'.size (by omega) hce IV (by omega)
     have HP2:=lh p2
     have HP5:=lh p5
     have HP6:=lh p6
     have HP7:=lh p7
     have HM2:=lh hm2
     have HC2':=lh hc2'
     have HN2:Hid ((f2 v).getD 0=(n:Int)):=lh (by rw[hfn];rfl)
     clear p2 p5 p6 p7 hm2 hne2 hc2' hex hfn hcome hRR hcv hce
     generalize (Plain.vOf g p k ((Plain.rootsTo g p (k+1)).getD n 0))=V0 at *
     generalize hRL:(Plain.rootsTo g p (k+1)).length=RL at *
     have HRL:=lh hRL
     clear hRL
     go_wp2_with (first
      | (at_lookup;refine wp_look _ rfl _ _ rfl HM2.out rfl IV rfl HN2 ?_)
      | (at_builtin;refine wl_apprun rfl (.tmp 70) (.tmp 72) _ rfl rfl rfl HP2.out ?_))
     go_roundw
     case rel =>
      refine⟨k+1,f2,_,by have:=HLT.out;omega,by go_num,(HM2.out.mono (by omega)).chg HP6.out (fun e=>?_),hpm2,by rw[HPC.out,HRL.out];exact HP5.out,HC2'.out.trans HP6.out (fun j hj=>Or.inr (HP7.out j hj).1)⟩
      obtain⟨-,cs,t,r,hh⟩:=HP7.out _ e
      exact HM2.out.ne hh rfl
     case measure=>have:=HLT.out;simp[intOf];omega
   have e:k=p.v.length:=by omega
   subst e
   rw[Plain.rootsTo_all] at hpm hne
   have hpv2:pcs (Plain.vOf g p p.v.length) (Plain.eOf g p 0) (Plain.roots g p)=pcs (Plain.comp g p) (Plain.eOf g p 0) (Plain.roots g p):=pcs_congr fun r _=>⟨Plain.vOf_all g p r,rfl⟩
   rw[hpv2] at hne
   have hrl:(Plain.roots g p).length≤100000:=by rw[←Plain.rootsTo_all];exact Nat.le_trans (Plain.rootsTo_len g p _) hpv
   have HN2:=lh hne
   obtain⟨uo,uc,rfl⟩:=hne.shape
   have y1:=HC.out.cell Y13.out (by simp)
   clear hpv2 HNE hne hm hc hlt hk
   generalize hRD:Plain.roots g p=R at *
   have HRD:=lh hRD
   clear hRD
   generalize wr=wz at *
   go_wp2
   go_loopw [80] (fun c wr=>∃ (k:Nat) (xs:List Value),k≤p.e.length∧c=.int .i64 k∧Nest wr w3.heap.size 29 2 (.slice uo R.length uc) R.length xs (pcs (Plain.comp g p) (Plain.eOf g p k) R)∧IMap wr w3.heap.size (p.v.length*1000000) f∧Chg [] w3 wr) (fun c _=>p.e.length - (intOf c).toNat)
   case atStart=>exact⟨0,xs,Nat.zero_le _,rfl,HN2.out,HM.out,HC.out⟩
   case round =>
    obtain⟨k,xs2,hk,rfl,hne,hm,hc⟩:=hrel
    have HCR:=lh hc
    have HMR:=lh hm
    by_cases hlt:k<p.e.length
    ·obtain⟨bb,boff,rfl,hbc⟩:=HBC.out (by intro e;rw[e] at hlt;simp at hlt)
     have ce:=hc.cell (HC3.out.cell (hbc k hlt) (by simp)) (by simp)
     have hre:=Plain.rises_at (Plain.Pt.err_ok HR.out).2.2.1 hlt
     obtain⟨ei,hei⟩:∃ ei:Nat,p.e.getD k 0=(ei:Int):=⟨(p.e.getD k 0).toNat,by omega⟩
     have hee:=HPO.out.ends _ (Plain.getD_mem hlt)
     have HEI:=lh (fun r=>Plain.eOf_in (g:=g) (r:=r) hlt)
     have HEO:=lh (fun r=>Plain.eOf_out (g:=g) (r:=r) hlt)
     rw[hei] at ce hre hee HEI HEO
     have hei2:ei<g.e.length:=by omega
     have hei3:(ei:Int)≤1024:=by have:=(Plain.Gr.err_ok (Plain.Pt.err_ok HR.out).1).2.2.1;have:=(Plain.Gr.err_ok (Plain.Pt.err_ok HR.out).1).1;omega
     obtain⟨eb,eoff,rfl,hc0,-⟩:=HCE.out ei hei2
     obtain⟨z1,-⟩:=HSM.out ei hei2
     have c0:=hc.cell (HC3.out.cell hc0 (by simp)) (by simp)
     have x1w:=hc.cell X13.out (by simp)
     have htl:g.tail (2*(ei:Int))=(g.ends ei).1:=by unfold Plain.Gr.tail Plain.Gr.at;rw[if_pos (by omega)];congr 2;omega
     have hat:(g.at (ei:Int)).1=(g.ends ei).1:=rfl
     rw[hat] at hee
     rw[htl] at HEI HEO
     obtain⟨x,hx⟩:∃ x,(g.ends ei).1=x:=⟨_,rfl⟩
     rw[hx] at hee z1 c0 HEI HEO
     obtain⟨r,hr1,hrc⟩:=Plain.root_of (g:=g) (fun v hv=>(HPO.out.vr v hv).1) hee.1
     rw[HRD.out] at hr1
     obtain⟨n,hnl,hnr⟩:=Plain.mem_getD hr1
     have hRR:∀ r∈R,r∈Plain.roots g p:=fun r hr=>by rw[HRD.out];exact hr
     have hfx:f x=some (n:Int):=(hpm.out x n).2 ⟨n,rfl,hnl,by rw[hnr];exact hrc⟩
     have hcv:x∈Plain.comp g p (R.getD n 0):=Plain.mem_comp.2 ⟨hee.1,by rw[hnr];exact hrc⟩
     have hRn:R.Nodup:=by rw[←HRD.out];exact Plain.roots_nodup HPO.out
     have HPC:=lh (show pcs (Plain.comp g p) (Plain.eOf g p (k+1)) R=(pcs (Plain.comp g p) (Plain.eOf g p k) R).set (n*2+1) (.row (Plain.eOf g p k (R.getD n 0)++[(ei:Int)])) by
      rw[←HEI.out _ hcv]
      exact pcs_set_odd hnl (fun m hm hmn=>HEO.out _ (fun hmem=>hmn (Plain.comp_one HPO.out hRR hRn hnl hm (by rw[hnr];exact hrc) hmem))))
     have hce:=pcs_odd (Plain.comp g p) (Plain.eOf g p k) _ n hnl
     have hvl:(Plain.eOf g p k (R.getD n 0)).length≤100000:=by
      unfold Plain.eOf
      refine Nat.le_trans (List.length_filter_le _ _) ?_
      rw[List.length_take];omega
     obtain⟨og,oc,e⟩:=hne.some (by omega)
     simp only[Value.slice.injEq] at e
     obtain⟨rfl,-,rfl⟩:=e
     have hxl:=hne.cells
     obtain⟨va,vc,va',vc',w8,p1,p2,p3,p4,p5,own,p6,p7⟩:=nest_lengthen hne (q:=n*2+1) (x:=(ei:Int)) (by decide) hc.size (by omega) hce (I64.mk (by omega) (by omega)) (by omega)
     have HP2:=lh p2
     have HP5:=lh p5
     have HP6:=lh p6
     have HP7:=lh p7
     have HN3:Hid ((f x).getD 0=(n:Int)):=lh (by rw[hfx];rfl)
     have HLT:=lh hlt
     clear p2 p5 p6 p7 hm hne hc hfx hRR hcv hce hbc hre hei hee hc0 htl hat hx hr1 hrc hnr hRn
     generalize (Plain.eOf g p k (R.getD n 0))=V0 at *
     go_wp2_with (first
      | (at_lookup;refine wp_look _ rfl _ _ rfl HMR.out rfl z1 rfl HN3 ?_)
      | (at_builtin;refine wl_apprun rfl (.tmp 98) (.tmp 100) _ rfl rfl rfl HP2.out ?_))
     go_roundw
     case rel =>
      refine⟨k+1,_,by have:=HLT.out;omega,by go_num,by rw[HPC.out];exact HP5.out,HMR.out.chg HP6.out (fun e=>?_),HCR.out.trans HP6.out (fun j hj=>Or.inr (HP7.out j hj).1)⟩
      obtain⟨-,cs,t,r,hh⟩:=HP7.out _ e
      exact HMR.out.ne hh rfl
     case measure=>have:=HLT.out;simp[intOf];omega
    have e:k=p.e.length:=by omega
    subst e
    have HN4:=lh (show Nest wr w.heap.size 29 2 (.slice uo R.length uc) R.length xs2 (pcs (Plain.comp g p) (fun r=>(p.sub g (Plain.comp g p r)).e) R) by
     have:=hne.base (show w.heap.size≤w3.heap.size by have:=HSZ3.out;omega)
     rwa[show pcs (Plain.comp g p) (Plain.eOf g p p.e.length) R=pcs (Plain.comp g p) (fun r=>(p.sub g (Plain.comp g p r)).e) R from pcs_congr fun r _=>⟨rfl,Plain.eOf_all HPO.out r⟩] at this)
    have HCF:=lh (HC3.out.trans hc (by simp))
    clear hne hm hc
    go_wp2
    refine bodyPost_ret (v:=.tuple #[.slice uo R.length uc,.int .i64 0]) (by simp[results,Tryz.results124,go_sem]) rfl ?_
    rw[HRD.out,HR.out]
    exact⟨_,rfl,fun h=>absurd rfl h,fun _=>⟨xs2,HN4.out⟩,HCF.out⟩
 have HR:=lh hr
 obtain⟨er,her⟩:∃ er,p.err g=er:=⟨_,rfl⟩
 have HER:=lh her
 rw[her] at hr HR ⊢
 clear her
 go_wp2
 refine bodyPost_ret (v:=.tuple #[.slice none 0 0,.int .i64 er]) (by simp[results,Tryz.results124,go_sem]) rfl ?_
 rw[HER.out]
 exact⟨_,rfl,fun _=>rfl,fun h=>absurd h HR.out,HC2.out⟩
theorem nest_pair {w:World} {B n i:Nat} {e:TypeId} {ov:Value} {xs:List Value} {V E:Int→List Int} {R:List Int} (h:Nest w B e 2 ov n xs (pcs V E R)) (hn:n=R.length) (hi:i<R.length) :
  ∃ g c va vc ea ec,ov=.slice (some ⟨g,0,none⟩) n c∧w.cell? ⟨g,i*2,none⟩=some (.slice va (V (R.getD i 0)).length vc)∧w.cell? ⟨g,i*2+1,none⟩=some (.slice ea (E (R.getD i 0)).length ec)∧RowAt w B (.slice va (V (R.getD i 0)).length vc) (V (R.getD i 0))∧RowAt w B (.slice ea (E (R.getD i 0)).length ec) (E (R.getD i 0)):=by
 obtain⟨g,c,rfl⟩:=h.some (by omega)
 have hx:=h.cells
 have r1:=h.row (pcs_even V E R i hi)
 have r2:=h.row (pcs_odd V E R i hi)
 have c1:=h.cell (k:=i*2) (by omega)
 have c2:=h.cell (k:=i*2+1) (by omega)
 obtain⟨va,vc,e1⟩:=r1.shape
 obtain⟨ea,ec,e2⟩:=r2.shape
 rw[e1] at c1 r1
 rw[e2] at c2 r2
 exact⟨g,c,va,vc,ea,ec,rfl,c1,c2,r1,r2⟩
theorem face_even:∀ (W:List Plain.Face) (i:Nat),i<W.length→(faceCells W)[i*2]?=some (.num (W.getD i (0,[])).1)∧(faceCells W)[i*2+1]?=some (.row (W.getD i (0,[])).2)
 | [],i,h=>by simp at h
 | f :: W,0,_=>⟨rfl,rfl⟩
 | f :: W,i+1,h=>by
  have ih:=face_even W i (by simpa using h)
  have e:faceCells (f :: W)=.num f.1 :: .row f.2 :: faceCells W:=rfl
  rw[e,show (i+1)*2=i*2+1+1 by omega,show i*2+1+1+1=(i*2+1)+1+1 by omega]
  simp only[List.getElem?_cons_succ,List.getD_cons_succ]
  exact ih
theorem nest_face {w:World} {B n i:Nat} {e:TypeId} {ov:Value} {xs:List Value} {W:List Plain.Face} (h:Nest w B e 2 ov n xs (faceCells W)) (hn:n=W.length) (hi:i<W.length) :
  ∃ g c va vc,ov=.slice (some ⟨g,0,none⟩) n c∧w.cell? ⟨g,i*2,none⟩=some (.int .i64 (W.getD i (0,[])).1)∧w.cell? ⟨g,i*2+1,none⟩=some (.slice va (W.getD i (0,[])).2.length vc)∧RowAt w B (.slice va (W.getD i (0,[])).2.length vc) (W.getD i (0,[])).2:=by
 obtain⟨g,c,rfl⟩:=h.some (by omega)
 have hx:=h.cells
 have hf:=face_even W i hi
 have n1:=h.num hf.1
 have r2:=h.row hf.2
 have c1:=h.cell (k:=i*2) (by omega)
 have c2:=h.cell (k:=i*2+1) (by omega)
 obtain⟨va,vc,e2⟩:=r2.shape
 rw[n1] at c1
 rw[e2] at c2 r2
 exact⟨g,c,va,vc,rfl,c1,c2,r2⟩
namespace Plain
def Told (g:Gr) (p:Pt) (R:List Int) (i j:Nat) (f:Int→Option Int):Prop :=
 (∀ m,m<i→∀ y∈comp g p (R.getD m 0),f y=some (m:Int))∧∀ y∈(comp g p (R.getD i 0)).take j,f y=some (i:Int)
theorem Told.start (g:Gr) (p:Pt) (R:List Int) (f:Int→Option Int):Told g p R 0 0 f:=⟨fun m hm=>by omega,by simp⟩
theorem Told.next {g:Gr} {p:Pt} {R:List Int} {i j:Nat} {f:Int→Option Int} (hp:PartOk g p) (hR:∀ r∈R,r∈roots g p) (hn:R.Nodup) (hi:i<R.length) (hj:j<(comp g p (R.getD i 0)).length) (h:Told g p R i j f) :
  Told g p R i (j+1) (fun y=>if y=(comp g p (R.getD i 0)).getD j 0 then some (i:Int) else f y):=by
 have hv:=getD_mem hj
 refine⟨fun m hm y hy=>?_,fun y hy=>?_⟩
 ·dsimp only
  rw[if_neg (fun e=>?_)]
  ·exact h.1 m hm y hy
  rw[e] at hy
  have:=comp_one hp hR hn (by omega:i<R.length) (by omega:m<R.length) (mem_comp.1 hv).2 hy
  omega
 dsimp only
 rw[take_snoc' hj,List.mem_append] at hy
 by_cases e:y=(comp g p (R.getD i 0)).getD j 0
 ·rw[if_pos e]
 rw[if_neg e]
 rcases hy with q | q
 ·exact h.2 y q
 exact absurd (List.mem_singleton.1 q) e
theorem Told.row {g:Gr} {p:Pt} {R:List Int} {i:Nat} {f:Int→Option Int} (h:Told g p R i (comp g p (R.getD i 0)).length f):Told g p R (i+1) 0 f:=by
 refine⟨fun m hm y hy=>?_,by simp⟩
 by_cases e:m<i
 ·exact h.1 m e y hy
 obtain rfl:m=i:=by omega
 exact h.2 y (by rw[List.take_length];exact hy)
theorem Told.all {g:Gr} {p:Pt} {f:Int→Option Int} (hp:PartOk g p) (h:Told g p (roots g p) (roots g p).length 0 f) {v:Int} (hv:v∈p.v):∃ n,n<(roots g p).length∧f v=some (n:Int)∧v∈comp g p ((roots g p).getD n 0):=by
 obtain⟨r,hr,hc⟩:=root_of (g:=g) (fun v hv=>(hp.vr v hv).1) hv
 obtain⟨n,hn,e⟩:=mem_getD hr
 have hm:v∈comp g p ((roots g p).getD n 0):=mem_comp.2 ⟨hv,by rw[e];exact hc⟩
 exact⟨n,hn,h.1 n hn v hm,hm⟩
theorem comp_len (g:Gr) (p:Pt) (r:Int):(comp g p r).length≤p.v.length:=by
 unfold comp
 exact List.length_filter_le _ _
end Plain
end Go.Proofs.YtkacjmoamgjfpaaGreat
