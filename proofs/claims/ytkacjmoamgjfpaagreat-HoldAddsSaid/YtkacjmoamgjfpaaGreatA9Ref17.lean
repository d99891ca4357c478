/- ref17.Right, ref17.And, ref04.Same, law17.Small: contracts. Conditions: parts, a case that lie in memory and read so, of a bounded size. -/
import Derived.Test.YtkacjmoamgjfpaaGreatA9Home
namespace Go.Proofs.YtkacjmoamgjfpaaGreat
open Go.RowKit Go.Maps
set_option maxRecDepth 100000 in
set_option maxHeartbeats 2000000 in
theorem aBK (vc:Value) (g:aA.Gr) (p:aA.Pt) (aB same:List (List Int)) (w:World) (hc:jK w vc g p aB same) :
  Calls Tryz.prog 16 #[vc] w fun e w'=>e=.returned (.int .i64 (bit (aA.iQ g p aB same)))∧Chg [] w w':=by
 obtain⟨eo,cap,ao,ac,bo,bc,tno,tc,so,sc,rfl,hg,hp,hx⟩:=hc.shape;have HG:=lh hg;have HP:=lh hp.at;have HX:=lh hx;have HC1:=lh ((Chg.refl [] w).alloc (.cells #[.int .i64 g.n,.slice eo g.e.length cap,.slice ao p.v.length ac,.slice bo p.e.length bc,.slice tno aB.length tc,.slice so same.length sc] 34));obtain⟨k0,k1,k2,k3,k4,k5,hsz⟩:=qV (Chg.refl [] (w.alloc (.cells #[.int .i64 g.n,.slice eo g.e.length cap,.slice ao p.v.length ac,.slice bo p.e.length bc,.slice tno aB.length tc,.slice so same.length sc] 34)));clear hc hg hp hx
 go_enter Tryz.func16,Tryz.ntmps16
 go_wp2_with fail
 generalize (w.alloc (.cells #[.int .i64 g.n,.slice eo g.e.length cap,.slice ao p.v.length ac,.slice bo p.e.length bc,.slice tno aB.length tc,.slice so same.length sc] 34))=w1 at *;refine (aCI _ _ _ g p aB same _ (HG.out.fresh HC1.out) (HP.out.fresh HC1.out) (HX.out.fresh HC1.out)).mono ?_;rintro e w2 ⟨rfl,hc2⟩;have HC2:=lh (HC1.out.t hc2);clear k0 k1 k2 k3 k4 k5 hsz hc2;go_wp2;go_ret;exact⟨rfl,HC2.out⟩
end Go.Proofs.YtkacjmoamgjfpaaGreat
namespace Go.Proofs.YtkacjmoamgjfpaaGreat
open Go.ChangeShapes Go.WideShapes Go.ChangeAt Go.RowKit Go.Deep Go.Joins
section
variable {H : Type} {enc : TypeId × Value → H} {w : World} {base : Nat} {held : Bool}
theorem aDl:Tryz.prog.cellsOf 22=1:=by kernel_rfl
theorem aER:Tryz.prog.cellsOf 30=1:=by kernel_rfl
theorem aHf:Tryz.prog.cellsOf 24=2:=by kernel_rfl
theorem aHn:Tryz.prog.cellsOf 29=2:=by kernel_rfl
theorem aHG:Tryz.prog.cellsOf 32=2:=by kernel_rfl
theorem aEO:Tryz.prog.cellsOf 34=6:=by kernel_rfl
theorem aIk {α:Type} {cs:Array α} (h:cs.size=6):∃ a b c d e f,cs=#[a,b,c,d,e,f]:=by
 obtain⟨l⟩:=cs
 match l,h with
 | [a,b,c,d,e,f],_=>exact⟨a,b,c,d,e,f,rfl⟩
set_option maxRecDepth 100000 in
theorem aGh {fuel:Nat} {c0 c1:Value} {x:DataW H × List MemPlace} (h:DataW.trod enc Tryz.prog w base (fun _=>true) held fuel 24 [c0,c1]=some x):∃ g,dW w (.agg #[c0,c1]) g:=by
 obtain⟨y0,y1,n,_,_,h0,h1⟩:=trod_struct2 Tryz.underlying24 h;simp only[vQ,aDl,List.drop_zero,List.drop_succ_cons,List.take_succ_cons,List.take_zero] at h0 h1;obtain⟨N,e0,_,w0⟩:=DataW.trod_int Tryz.underlying3 h0;simp at e0;subst e0;rcases open_slice Tryz.underlying22 h1 with ⟨hcs,_⟩ | ⟨a,len',cap',m,n',D,Pl,hcs,_,hl,hm,hmm,_,hx⟩
 ·simp at hcs
  subst hcs;exact⟨⟨N,[]⟩,none,0,rfl,w0,Nat.zero_le _,fun i hi=>absurd hi (by simp),fun i hi=>absurd hi (by simp)⟩
 simp at hcs;subst hcs;simp only[if_true] at hmm;subst hmm;have each:∀ i,i<m→∃ y:Int × Int,(I64 y.1∧I64 y.2)∧w.cell? (a.add (i*2))=some (.int .i64 y.1)∧w.cell? (a.add (i*2+1))=some (.int .i64 y.2):=by
  intro i hi;obtain⟨cs',hc,ht⟩:=hx i hi;rw[aEn] at hc;obtain⟨_,hlen,hat⟩:=World.cells?_some hc;obtain⟨y0,y1,n',_,_,k0,k1⟩:=trod_struct2 Tryz.underlying82 ht
  match cs',hlen with
  | [c0,c1],_ =>
   simp only[vQ,List.drop_zero,List.drop_succ_cons,List.take_succ_cons,List.take_zero] at k0 k1;obtain⟨x0,e0,_,q0⟩:=DataW.trod_int Tryz.underlying3 k0;obtain⟨x1,e1,_,q1⟩:=DataW.trod_int Tryz.underlying3 k1;simp at e0 e1;subst e0 e1;refine⟨(x0,x1),⟨q0,q1⟩,?_,?_⟩
   ·have:=hat 0 (by omega);rw[add_add] at this;simpa using this
   have:=hat 1 (by omega);rw[add_add] at this;simpa using this
 obtain⟨f,hf⟩:=choose_lt each;unfold maxLen at hm;have hg:∀ i,i<len'→((List.range len').map f).getD i (0,0)=f i:=fun i hi=>by simp[List.getD,hi]
 refine⟨⟨N,(List.range len').map f⟩,some a,m,by simp,w0,by simp;omega,fun i hi=>?_,fun i hi=>?_⟩
 ·have hi:i<len':=by simpa using hi
  show I64 (((List.range len').map f).getD i (0,0)).1∧I64 (((List.range len').map f).getD i (0,0)).2;rw[hg i hi];exact (hf i (by omega)).1
 have hi:i<len':=by simpa using hi
 obtain⟨_,k0,k1⟩:=hf i (by omega);obtain⟨b,off,spot⟩:=a;have hs:spot=none:=by
  have:=World.cell?_spot (hf 0 (by omega)).2.1;simpa[Addr.add] using this
 subst hs;refine⟨b,off,rfl,?_,?_⟩
 ·show _=some (Value.int .i64 (((List.range len').map f).getD i (0,0)).1)
  rw[hg i hi,←add_plain];exact k0
 show _=some (Value.int .i64 (((List.range len').map f).getD i (0,0)).2);rw[hg i hi,Nat.add_assoc,←add_plain];exact k1
set_option maxRecDepth 100000 in
theorem aGs {fuel:Nat} {c0 c1:Value} {x:DataW H × List MemPlace} (h:DataW.trod enc Tryz.prog w base (fun _=>true) held fuel 29 [c0,c1]=some x):∃ g,PtC w (.agg #[c0,c1]) g:=by
 obtain⟨y0,y1,n,_,_,h0,h1⟩:=trod_struct2 Tryz.underlying29 h;simp only[aBG,List.drop_zero,List.drop_succ_cons,List.take_succ_cons,List.take_zero] at h0 h1;obtain⟨l0,k0,q0⟩:=sM h0;obtain⟨l1,k1,q1⟩:=sM h1;exact⟨⟨l0,l1⟩,c0,c1,rfl,⟨k0,q0⟩,⟨k1,q1⟩⟩
set_option maxRecDepth 100000 in
theorem aG1 {fuel:Nat} {c0 c1:Value} {x:DataW H × List MemPlace} (h:DataW.trod enc Tryz.prog w base (fun _=>true) held fuel 32 [c0,c1]=some x):∃ aB same,jX w (.agg #[c0,c1]) aB same:=by
 obtain⟨y0,y1,n,_,_,h0,h1⟩:=trod_struct2 Tryz.underlying32 h;simp only[aER,List.drop_zero,List.drop_succ_cons,List.take_succ_cons,List.take_zero] at h0 h1;obtain⟨l0,k0⟩:=zG h0;obtain⟨l1,k1⟩:=zG h1;exact⟨l0,l1,c0,c1,rfl,k0,k1⟩
set_option maxRecDepth 100000 in
theorem aEi {r:Reach} {b0:Nat} {v:Value} {d:DataW H} {p:List MemPlace} (hv:Value.okWide Tryz.prog w r b0 34 v) (h:DataW.Trod enc Tryz.prog w base (fun _=>true) held 34 v d p):∃ g q aB same,jK w v g q aB same:=by
 obtain⟨cs,rfl,hsz⟩:=okWide_struct Tryz.underlying34 hv;obtain⟨c0,c1,c2,c3,c4,c5,rfl⟩:=aIk (hsz.trans aEO);obtain⟨fuel,hf⟩:=h;obtain⟨y0,y1,y2,n,_,_,h0,h1,h2⟩:=trod_struct3 Tryz.underlying34 hf;simp only[Value.cells,aHf,aHn,aHG,List.drop_zero,List.drop_succ_cons,List.take_succ_cons,List.take_zero] at h0 h1 h2;obtain⟨g,hg⟩:=aGh h0;obtain⟨q,hq⟩:=aGs h1;obtain⟨t,s,hx⟩:=aG1 h2;exact⟨g,q,t,s,c0,c1,c2,c3,c4,c5,rfl,hg,hq,hx⟩
end
end Go.Proofs.YtkacjmoamgjfpaaGreat
namespace Go.Proofs.YtkacjmoamgjfpaaGreat.aA
def qM (R:List (List Int)) (k:Nat):List (List Int):=(R.take k).map (fun l=>l.mergeSort fun x y=>decide (x≤y))++R.drop k
def pY (R:List (List Int)) (k:Nat):List (List Int):=((R.take k).filter fun l=>decide (1<l.length)).map fun l=>l.mergeSort fun x y=>decide (x≤y)
theorem aE6 (R:List (List Int)):qM R 0=R:=by simp[qM]
theorem oO (R:List (List Int)) (k:Nat):(qM R k).length=R.length:=by simp[qM];omega
theorem aCp {R:List (List Int)} {k i:Nat} (hi:i<R.length) (hk:k≤i):(qM R k).getD i []=R.getD i []:=by
 unfold qM;have hkl:((R.take k).map fun l=>l.mergeSort fun x y=>decide (x≤y)).length=k:=by simp;omega
 simp only[List.getD];rw[List.getElem?_append_right (by omega),hkl,List.getElem?_drop,show k+(i - k)=i by omega]
theorem yJ {R:List (List Int)} {k:Nat} (hk:k<R.length):qM R (k+1)=(qM R k).set k ((R.getD k []).mergeSort fun x y=>decide (x≤y)):=by
 unfold qM;have hkl:((R.take k).map fun l=>l.mergeSort fun x y=>decide (x≤y)).length=k:=by simp;omega
 have hg:R.getD k []=R[k]:=by simp[List.getD,hk]
 rw[List.take_succ_eq_append_getElem hk,List.map_append,List.append_assoc,List.set_append_right _ _ (by omega),hkl,Nat.sub_self,List.drop_eq_getElem_cons hk,hg];rfl
theorem aEy (R:List (List Int)):pY R 0=[]:=rfl
theorem aCH {l:List Int} (h:¬ 1<l.length):(l.mergeSort fun x y=>decide (x≤y))=l:=by
 match l,h with
 | [],_=>rw[List.mergeSort_nil]
 | [x],_=>rw[List.mergeSort_singleton]
 | x :: y :: l,h=>simp at h
theorem aEK {R:List (List Int)} {k:Nat} (hk:k<R.length) (h:¬ 1<(R.getD k []).length):qM R (k+1)=qM R k:=by
 rw[yJ hk,aCH h,←aCp (R:=R) hk (Nat.le_refl k)];have hl:k<(qM R k).length:=by rw[oO];exact hk
 refine List.ext_getElem (by simp) fun i h1 h2=>?_;rw[List.getElem_set];split
 ·rename_i e;subst e;simp[List.getD,hl]
 rfl
theorem aFe {R:List (List Int)} {k:Nat} (hk:k<R.length) (h:¬ 1<(R.getD k []).length):pY R (k+1)=pY R k:=by
 unfold pY;have hg:R.getD k []=R[k]:=by simp[List.getD,hk]
 rw[hg] at h;rw[List.take_succ_eq_append_getElem hk,List.filter_append,List.filter_cons_of_neg (by simpa using h)];simp
theorem aEx {R:List (List Int)} {k:Nat} (hk:k<R.length) (h:1<(R.getD k []).length):pY R (k+1)=pY R k++[(R.getD k []).mergeSort fun x y=>decide (x≤y)]:=by
 unfold pY;have hg:R.getD k []=R[k]:=by simp[List.getD,hk]
 rw[hg] at h ⊢;rw[List.take_succ_eq_append_getElem hk,List.filter_append,List.filter_cons_of_pos (by simpa using h),List.map_append];rfl
theorem aBh (R:List (List Int)) (k:Nat):(pY R k).length≤k:=by
 unfold pY;rw[List.length_map];exact Nat.le_trans (List.length_filter_le _ _) (by simp;omega)
theorem aAZ {R:List (List Int)} {k:Nat} {l:List Int} (h:l∈pY R k):∃ m∈R,l.Perm m∧1<m.length:=by
 obtain⟨m,hm,rfl⟩:=List.mem_map.1 h;obtain⟨h1,h2⟩:=List.mem_filter.1 hm;exact⟨m,List.mem_of_mem_take h1,List.mergeSort_perm _ _,of_decide_eq_true h2⟩
def sorted (l:List Int):List Int:=l.mergeSort fun x y=>decide (x≤y)
def jG (R:List (List Int)) (n:Nat) (x:Int):List (List Int):=((R.set n (R.getD n []++[x])).filter fun l=>decide (1<l.length)).map sorted
theorem aGK (R:List (List Int)) (n:Nat) (x:Int):pY (R.set n (R.getD n []++[x])) (R.set n (R.getD n []++[x])).length=jG R n x:=by
 unfold pY jG;rw[List.take_length];rfl
theorem sorted_perm (l:List Int):(sorted l).Perm l:=List.mergeSort_perm _ _
theorem aFd (l:List Int):(sorted l).Pairwise (·≤·):=by
 have h:=List.pairwise_mergeSort (le:=fun x y:Int=>decide (x≤y)) (fun a b c h1 h2=>by simp only[decide_eq_true_eq] at *;omega) (fun a b=>by simp only[Bool.or_eq_true,decide_eq_true_eq];omega) l;exact h.imp fun h=>by simpa using h
theorem aBS {l:List Int} (h:l.Nodup):(sorted l).Pairwise (·<·):=by
 have h1:=aFd l;have h2:(sorted l).Nodup:=(sorted_perm l).nodup_iff.2 h;exact (h1.and h2).imp fun ⟨a,b⟩=>by omega
theorem pT {l m:List Int} (hl:l.Nodup) (hm:m.Pairwise (·<·)) (h:∀ x,x∈l↔x∈m):sorted l=m :=
 rL (aBS hl) hm fun x=>(sorted_perm l).mem_iff.trans (h x)
theorem aGW (R:List (List Int)) (n:Nat) (x:Int):jG R n x=((R.set n (R.getD n []++[x])).map sorted).filter fun l=>decide (1<l.length):=by
 unfold jG;rw[List.filter_map]
 congr 1
 exact List.filter_congr fun l _=>by simp only[Function.comp];rw[(sorted_perm l).length_eq]
theorem aB9 {c:aO→Int} {W W':List aO} {xf:aO} (hk:(W'.map (·.1)).Pairwise (·<·)) (hm:∀ f,f∈W'↔f∈W∨f=xf) (hx:∀ f∈W,f.1≠xf.1) (hkW:(W.map (·.1)).Pairwise (·<·)) {H:List Int} (hH:H.Nodup) (hcov:∀ f∈W',c f∈H) {n:Nat} (hn:n<H.length) (hHn:H[n]=c xf)
  {S:List (List Int)} (hp:S.Perm (jG (H.map (aT c W)) n xf.1)) (ho:S.Pairwise fun a b=>a.getD 0 0≤b.getD 0 0):S=eT c W':=by
 have hmap:((H.map (aT c W)).set n ((H.map (aT c W)).getD n []++[xf.1])).map sorted=H.map (aT c W'):=by
  refine List.ext_getElem (by simp) fun i h1 h2=>?_;simp only[List.length_map,List.length_set] at h1 h2;rw[List.getElem_map,List.getElem_map,List.getElem_set];have hgn:(H.map (aT c W)).getD n []=aT c W (c xf):=by simp[List.getD,hn,hHn]
  by_cases e:n=i
  ·subst e
   rw[if_pos rfl,hgn,hHn];refine pT ?_ (eV hk _) fun x=>?_
   ·rw[List.nodup_append]
    refine⟨(eV hkW _).imp fun h=>by omega,by simp,fun a ha b hb e=>?_⟩;obtain⟨f,hf,-,e2⟩:=cJ.1 ha;rw[List.mem_singleton.1 hb] at e;exact hx f hf (e2.trans e)
   rw[List.mem_append,cJ,cJ,List.mem_singleton];constructor
   ·rintro (⟨f,hf,e1,e2⟩ | e)
    ·exact⟨f,(hm f).2 (Or.inl hf),e1,e2⟩
    exact⟨xf,(hm xf).2 (Or.inr rfl),rfl,e.symm⟩
   rintro ⟨f,hf,e1,e2⟩;rcases (hm f).1 hf with q | q
   ·exact Or.inl ⟨f,q,e1,e2⟩
   rw[q] at e2;exact Or.inr e2.symm
  rw[if_neg e,List.getElem_map];have hne:H[i]≠c xf:=fun q=>by
   rw[←hHn] at q;rcases Nat.lt_or_gt_of_ne e with r | r
   ·exact List.pairwise_iff_getElem.1 hH n i hn h2 r q.symm
   exact List.pairwise_iff_getElem.1 hH i n h2 hn r q
  refine pT ((eV hkW _).imp fun h=>by omega) (eV hk _) fun x=>?_;rw[cJ,cJ];constructor
  ·rintro ⟨f,hf,e1,e2⟩
   exact⟨f,(hm f).2 (Or.inl hf),e1,e2⟩
  rintro ⟨f,hf,e1,e2⟩;rcases (hm f).1 hf with q | q
  ·exact⟨f,q,e1,e2⟩
  rw[q] at e1;exact absurd e1.symm hne
 rw[aGW,hmap,List.filter_map] at hp;refine aAE hk ?_ (fun l=>?_) hp ho
 ·unfold List.Nodup
  rw[List.pairwise_map];refine (hH.filter _).imp_of_mem fun {a b} ha hb hab e=>hab ?_;have hla:1<(aT c W' a).length:=by simpa using (List.mem_filter.1 ha).2
  obtain⟨x,hxa⟩:=List.exists_mem_of_length_pos (l:=aT c W' a) (by omega);have hxb:=hxa;rw[e] at hxb;obtain⟨f,hf,e1,e2⟩:=cJ.1 hxa;obtain⟨f',hf',e3,e4⟩:=cJ.1 hxb;rw[←e1,←e3,jY hk hf hf' (e2.trans e4.symm)]
 rw[List.mem_map];constructor
 ·rintro ⟨h,hh,rfl⟩
  exact⟨h,rfl,by simpa using (List.mem_filter.1 hh).2⟩
 rintro ⟨h,rfl,hl⟩;obtain⟨x,hxa⟩:=List.exists_mem_of_length_pos (l:=aT c W' h) (by omega);obtain⟨f,hf,e1,-⟩:=cJ.1 hxa;exact⟨h,List.mem_filter.2 ⟨by rw[←e1];exact hcov f hf,by simpa using hl⟩,rfl⟩
theorem aBT {g:Gr} {q:Pt} {T:List (List Int)} {c:aO→Int} (hz:aN g q T (eT c (aH g q T))=0) :
  ∃ H:List Int,H.Nodup∧aJ g q T (eT c (aH g q T))=H.map (aT c (aH g q T))∧(∀ f∈aH g q T,c f∈H)∧∀ h∈H,∃ f∈aH g q T,c f=h:=by
 obtain⟨hpe,hto⟩:=eP hz;have hW:=bS hpe hto;have hk:=dF hpe hW;have hpt:=iN hz hW;have hir:=gY hpt;obtain⟨W,hWe⟩:∃ W,aH g q T=W:=⟨_,rfl⟩;obtain⟨R,hR⟩:∃ R,aJ g q T (eT c (aH g q T))=R:=⟨_,rfl⟩;rw[hR] at hir ⊢;have hnd:=hpt.oJ;have hne:=hpt.ne;unfold eQ at hnd hne;have hper:=hir.perm;unfold eQ at hper;rw[hWe] at hper hnd hne hk ⊢;clear hir hpt;have hone:∀ f∈W,f.1∈aT c W (c f):=fun f hf=>cJ.2 ⟨f,hf,rfl,rfl⟩;have hsub:∀ l∈R,∃ f∈W,aT c W (c f)=l:=by
  intro l hl;rcases List.mem_append.1 (hper.mem_iff.1 hl) with q | q
  ·obtain⟨h,rfl,hlen⟩:=eX.1 q
   obtain⟨x,hx⟩:=List.exists_mem_of_length_pos (l:=aT c W h) (by omega);obtain⟨f,hf,e1,-⟩:=cJ.1 hx;exact⟨f,hf,by rw[e1]⟩
  unfold dM at q;obtain⟨f,hf,rfl⟩:=List.mem_map.1 q;obtain⟨hf1,hf2⟩:=List.mem_filter.1 hf;have hf2:f.1 ∉ (eT c W).flatten:=of_decide_eq_true hf2;have hlen:¬ 1<(aT c W (c f)).length:=fun q=>hf2 (List.mem_flatten.2 ⟨_,eX.2 ⟨c f,rfl,q⟩,hone f hf1⟩);refine⟨f,hf1,?_⟩;cases e:aT c W (c f) with
  | nil=>have:=hone f hf1;rw[e] at this;cases this
  | cons a l =>
   rw[e] at hlen;have hl0:l=[]:=by cases l with
    | nil=>rfl
    | cons b m=>simp at hlen
   have:=hone f hf1;rw[e,hl0] at this;rw[hl0,List.mem_singleton.1 this]
 have hsup:∀ f∈W,aT c W (c f)∈R:=by
  intro f hf;refine hper.mem_iff.2 (List.mem_append.2 ?_);by_cases hlen:1<(aT c W (c f)).length
  ·exact Or.inl (eX.2 ⟨c f,rfl,hlen⟩)
  right;unfold dM;have hno:f.1 ∉ (eT c W).flatten:=by
   intro q;obtain⟨l,hl,hfl⟩:=List.mem_flatten.1 q;obtain⟨h,rfl,hl2⟩:=eX.1 hl;obtain⟨f',hf',e1,e2⟩:=cJ.1 hfl;rw[jY hk hf' hf e2] at e1;rw[e1] at hlen;exact hlen hl2
  refine List.mem_map.2 ⟨f,List.mem_filter.2 ⟨hf,decide_eq_true hno⟩,?_⟩;cases e:aT c W (c f) with
  | nil=>have:=hone f hf;rw[e] at this;cases this
  | cons a l =>
   rw[e] at hlen;have hl0:l=[]:=by cases l with
    | nil=>rfl
    | cons b m=>simp at hlen
   have:=hone f hf;rw[e,hl0] at this;rw[hl0,List.mem_singleton.1 this]
 have hRn:R.Nodup:=by
  refine hper.nodup_iff.2 ?_;obtain⟨-,h2⟩:=cV.1 hnd;refine h2.imp_of_mem fun {a b} ha hb hdis e=>?_;subst e;obtain⟨x,hx⟩:=List.exists_mem_of_ne_nil _ (hne a ha);exact hdis x hx x hx rfl
 obtain⟨H,hH⟩:∃ H:List Int,R=H.map (aT c W)∧∀ h∈H,∃ f∈W,c f=h:=by
  clear hR hRn hsup hper hne hnd
  induction R with
  | nil=>exact⟨[],rfl,by simp⟩
  | cons l R ih =>
   obtain⟨H,e,hh⟩:=ih fun l hl=>hsub l (List.mem_cons_of_mem _ hl);obtain⟨f,hf,e2⟩:=hsub l (by simp);exact⟨c f :: H,by rw[List.map_cons,←e,e2],fun h hm=>(List.mem_cons.1 hm).elim (fun q=>⟨f,hf,q.symm⟩) (hh h)⟩
 obtain⟨e,hh⟩:=hH;refine⟨H,?_,e,fun f hf=>?_,hh⟩
 ·rw[e] at hRn
  unfold List.Nodup at hRn;rw[List.pairwise_map] at hRn;exact hRn.imp fun q r=>q (by rw[r])
 have:=hsup f hf;rw[e] at this;obtain⟨h,hm,e2⟩:=List.mem_map.1 this;obtain⟨f',hf',e3⟩:=hh h hm;have h1:=hone f hf;rw[←e2] at h1;obtain⟨f2,hf2,e4,e5⟩:=cJ.1 h1;rw[jY hk hf2 hf e5] at e4;rw[e4];exact hm
theorem aDa {g:Gr} {h k:Pt} {T:List (List Int)} {v:Int} (hhe:h.err g=0) (hke:k.err g=0) (hth:aW g h T) (he:k.e=h.e) (hv:∀ u,u∈k.v↔u∈h.v∨u=v) (hvn:v ∉ h.v) (f:aO):f∈aH g k T↔f∈aH g h T∨f=(-1 - v,[]):=by
 have hd:k.aK=h.aK:=by unfold Pt.aK;rw[he]
 obtain⟨F,hF,tF⟩:=(bS hhe hth).split;have tK:Trk g k T F k.aK:=by
  rw[hd];exact⟨tF.rings,by rw[hd];exact tF.sub,tF.key,tF.keys,tF.least,tF.cover⟩
 have hK:=(tK.walks (Pt.aQ hke)).eq hke;have hvr:=(Pt.aQ hke).vr v ((hv v).2 (Or.inr rfl));have hempty:aX T v=[]:=by
  cases e:aX T v with
  | nil=>rfl
  | cons d l =>
   have hm:d∈aX T v:=by rw[e];simp
   obtain⟨h1,h2⟩:=(hth.mem v hvr.1 hvr.2 d).1 hm;have:=((Pt.aQ hhe).dN h1).1;rw[h2] at this;exact absurd this hvn
 rw[←hK,hF,List.mem_append,List.mem_append];have hl:f∈bW T k.v↔f∈bW T h.v∨f=(-1 - v,[]):=by
  unfold bW;simp only[List.mem_map,List.mem_filter,List.mem_reverse];constructor
  ·rintro ⟨u,⟨h1,h2⟩,rfl⟩
   rcases (hv u).1 h1 with q | q
   ·exact Or.inl ⟨u,⟨q,h2⟩,rfl⟩
   rw[q];exact Or.inr rfl
  rintro (⟨u,⟨h1,h2⟩,rfl⟩ | rfl)
  ·exact⟨u,⟨(hv u).2 (Or.inl h1),h2⟩,rfl⟩
  exact⟨v,⟨(hv v).2 (Or.inr rfl),by rw[hempty];rfl⟩,rfl⟩
 rw[hl];constructor
 ·rintro ((q | q) | q)
  ·exact Or.inl (Or.inl q)
  ·exact Or.inr q
  exact Or.inl (Or.inr q)
 rintro ((q | q) | q)
 ·exact Or.inl (Or.inl q)
 ·exact Or.inr q
 exact Or.inl (Or.inr q)
noncomputable def fE (g:Gr) (p:Pt) (aB same:List (List Int)):List (List Int):=if p.v=[] then [[]] else aJ g p aB same
theorem cO {ll:List (List Int)} {n:Nat} (h:n<ll.length):ll.getD n []∈ll:=by simp[List.getD,h]
theorem aAn:∀ {ll:List (List Int)},(∀ l∈ll,l≠[])→ll.length≤ll.flatten.length
 | [],_=>Nat.le_refl _
 | l :: ll,h=>by
  have ih:=aAn (ll:=ll) fun x hx=>h x (List.mem_cons_of_mem _ hx);have h1:=List.length_pos_iff.2 (h l (by simp));rw[List.flatten_cons,List.length_append,List.length_cons];omega
theorem lO {g:Gr} {p:Pt} {aB same:List (List Int)} (hz:aN g p aB same=0) (hpl:p.e.length≤60) (hpv:p.v.length≤60) :
  (∀ l∈fE g p aB same,(∀ x∈l,I64 x∧-1000000≤x∧x≤1000000)∧l.length≤1000)∧(fE g p aB same).length≤1000:=by
 obtain⟨hpe,hto⟩:=eP hz;have hW:=bS hpe hto;have hpt:=iN hz hW;have hreg:=gY hpt;have hsm:=qK hpt hreg;have hwl:=hW.len;unfold fE;by_cases h:p.v=[]
 ·rw[if_pos h]
  refine⟨fun l hl=>?_,by decide⟩;rw[List.mem_singleton.1 hl];exact⟨by simp,by simp⟩
 rw[if_neg h];refine⟨fun l hl=>⟨fun x hx=>?_,by have:=(hsm l hl).2;omega⟩,?_⟩
 ·obtain⟨f,hf,rfl⟩:=List.mem_map.1 ((hsm l hl).1 x hx).2
  have hb:-1024≤f.1∧f.1<2048:=by
   rcases dV.1 ((rC hpe hto hf).2 _ (wK hpe hto hf).1) with ⟨h1,-⟩ | ⟨v,h1,-,e⟩
   ·obtain⟨n,e,-,hn⟩:=Pt.mC hpe h1
    omega
   have h2:=(Pt.aQ hpe).vr v h1;have h3:=(Gr.aV (Pt.aV hpe).1).2.1;omega
  exact⟨I64.mk (by omega) (by omega),by omega,by omega⟩
 have h1:=aAn (lR hz);have h2:=(hreg.perm.flatten.trans hpt.all).length_eq;rw[List.length_map] at h2;omega
end Go.Proofs.YtkacjmoamgjfpaaGreat.aA
namespace Go.Proofs.YtkacjmoamgjfpaaGreat
open Go.RowKit Go.Maps
theorem aGN (ga gb n m c c':Nat) (x y:Int) (w:World) (hn:0<n) (hm:0<m) (hw:IntKind.i64.wrap (x - y)=x - y) (h1:w.cell? ⟨ga,0,none⟩=some (.int .i64 x)) (h2:w.cell? ⟨gb,0,none⟩=some (.int .i64 y)) :
  Calls Tryz.prog 80 #[.slice (some ⟨ga,0,none⟩) n c,.slice (some ⟨gb,0,none⟩) m c'] w fun e w'=>e=.returned (.int .i64 (x - y))∧∃ q,w'=w.drewN q:=by
 have i3:(0:Int)<(n:Int):=by omega
 have i4:(0:Int)<(m:Int):=by omega
 go_enter Tryz.func80,Tryz.ntmps80
 go_wp2;have hS0:(fun w':World=>w'.cell? ⟨ga,0,none⟩=some (.int .i64 x)∧w'.cell? ⟨gb,0,none⟩=some (.int .i64 y)) w.drew:=⟨h1,h2⟩;refine aF (fun w':World=>w'.cell? ⟨ga,0,none⟩=some (.int .i64 x)∧w'.cell? ⟨gb,0,none⟩=some (.int .i64 y)) [0,1,2,3,4,5,6] (Way.line [0,1,2,3,4,5,6,7] .done) (by kernel_rfl) (by kernel_rfl) ?_;simp only[Way.line]
 repeat
  first
   | (refine aE rfl (by rfl) (by rfl) (fun _ _ _ h=>h) hS0 ?_;simp only[Act.put,Z1,Z2,Z3,Z4,Z5,Z6])
   | (refine aC (v:=?_) rfl (by rfl) (by rfl) (fun _ _ _ h=>h) hS0 (fun w' hS'=>?_) ?_;rotate_left;(focus ((try dsimp only at hS');go_simp;try with_reducible rfl));simp only[Act.put,Z1,Z2,Z3,Z4,Z5,Z6])
   | (refine aD rfl (by rfl) (by rfl) hS0 ?_;simp only[Act.put,Z1,Z2,Z3,Z4,Z5,Z6])
 refine aI rfl (by rfl) (by rfl) (fun K hK=>?_);go_simp;refine hK.out _ _ (fun _=>hS0) ?_;clear hK K
 try simp only[Act.put,Z1,Z2,Z3,Z4,Z5,Z6]
 refine aG ?_;go_wp2;go_ret;exact⟨rfl,1,rfl⟩
def eI (w:World) (B:Nat):Type:={z:bI w B // -1000000≤z.key∧z.key≤1000000}
def eI.row {w:World} {B:Nat} (z:eI w B):bI w B:=z.1
def eI.val {w:World} {B:Nat} (z:eI w B):Value:=z.row.val
def eI.cmp {w:World} {B:Nat} (y z:eI w B):Int:=y.row.key - z.row.key
theorem eI.one {w:World} {B:Nat}:OneCell (eI.val (w:=w) (B:=B)):=fun z=>bI.one z.row
theorem eI.lt {w:World} {B:Nat} (y z:eI w B):ltOf eI.cmp y z=decide (y.row.key<z.row.key):=by
 unfold ltOf eI.cmp;by_cases h:y.row.key<z.row.key
 ·rw[decide_eq_true h,decide_eq_true (by omega)]
 rw[decide_eq_false h,decide_eq_false (by omega)]
theorem eI.swo {w:World} {B:Nat}:Go.Sort.SWO (ltOf (eI.cmp (w:=w) (B:=B))) where
 irrefl x:=by rw[eI.lt];simp
 trans x y z h1 h2:=by rw[eI.lt] at *;simp at *;omega
 ntrans x y z h1 h2:=by rw[eI.lt] at *;simp at *;omega
theorem uL {w:World} {B g m:Nat} {os:Array Obj} [Inhabited (bI w B)] [Inhabited (eI w B)] (d:Array (eI w B)):Go.Proofs.sortWorld eI.val w g 0 m d os=Go.Proofs.sortWorld bI.val w g 0 m (d.map eI.row) os:=by
 have e:Go.Sort.putCells eI.val 0 d=Go.Sort.putCells bI.val 0 (d.map eI.row):=by
  funext c
  unfold Go.Sort.putCells
  congr 1
  funext k x
  rw[Array.size_map];by_cases h:0≤k∧k<0+d.size
  ·rw[if_pos h,if_pos h]
   have hk:k - 0<d.size:=by omega
   rw[getElem!_pos d _ hk,getElem!_pos (d.map eI.row) _ (by simpa using hk),Array.getElem_map];rfl
  rw[if_neg h,if_neg h]
 unfold Go.Proofs.sortWorld Go.Sort.putRow;rw[e]
theorem aBL {w:World} {B:Nat}:∀ (dl:List (bI w B)),(∀ z∈dl,-1000000≤z.key∧z.key≤1000000)→∃ d:List (eI w B),d.map eI.row=dl
 | [],_=>⟨[],rfl⟩
 | z :: dl,h=>by
  obtain⟨d,hd⟩:=aBL dl fun x hx=>h x (List.mem_cons_of_mem _ hx);exact⟨⟨z,h z (by simp)⟩ :: d,congrArg (z :: ·) hd⟩
set_option maxHeartbeats 1000000 in
theorem aCc (v:Value) (vs:List Value) (ll:List (List Int)) (B:Nat) (w:World) (hn:vs.length<4294967296) (h:aR w B v vs ll) (hne:∀ l∈ll,l≠[]∧-1000000≤l.getD 0 0∧l.getD 0 0≤1000000) :
  Calls Tryz.prog 79 #[v,.func (.func 80) #[] #[]] w fun e w'=>e=.returned (.tuple #[])∧∃ vs' ll',aR w' B v vs' ll'∧vs'.length=vs.length∧ll'.Perm ll∧ll'.Pairwise (fun a b=>a.getD 0 0≤b.getD 0 0)∧Chg v.ownBlock.toList w w':=by
 by_cases h0:vs.length=0
 ·obtain⟨ao,cap,rfl⟩:=bR h.out
  have hl0:ll=[]:=List.length_eq_zero_iff.1 (by rw[←h.len,h0]);have hcon:=AnyF.slices_SortFunc_none { Tryz.mN with } ao cap (.func (.func 80) #[] #[]) w
  change Calls Tryz.prog 79 _ _ _ at hcon
  rw[h0] at h ⊢;refine hcon.mono ?_;rintro e w' ⟨rfl,rfl⟩;have hvs:vs=[]:=List.length_eq_zero_iff.1 h0;subst hvs;exact⟨rfl,[],ll,h,rfl,List.Perm.refl _,by rw[hl0];exact List.Pairwise.nil,Chg.refl _ _⟩
 obtain⟨g,cap,rfl⟩:=dP h.out (by omega);have hrow:∀ k,k<vs.length→w.ownsRow B 3 1 (vs.getD k undef) (ll.getD k []).length (ints (ll.getD k []))∧ll.getD k []≠[]:=fun k hk=>⟨h.rows k hk,(hne _ (by have:=h.len;simp[List.getD,show k<ll.length by omega])).1⟩;obtain⟨dl,hvl,hll⟩:=vC vs ll h.len hrow;obtain⟨db,hdb⟩:=aBL dl fun z hz=>by
  have:=hne z.1.2 (by rw[←hll];exact List.mem_map.2 ⟨z,hz,rfl⟩);exact this.2
 obtain⟨z0,hz0⟩:∃ z0:eI w B,z0∈db:=by
  cases db with
  | nil=>rw[List.map_nil] at hdb;rw[←hdb] at hvl;rw[←hvl] at h0;simp at h0
  | cons z db=>exact⟨z,by simp⟩
 haveI:Inhabited (eI w B):=⟨z0⟩
 haveI:Inhabited (bI w B):=⟨z0.row⟩
 obtain⟨d,hd⟩:∃ d:Array (eI w B),d=db.toArray:=⟨_,rfl⟩;have hdm:(d.map eI.row).toList=dl:=by rw[hd];simpa using hdb
 have hv:(d.map eI.row).toList.map bI.val=vs:=by rw[hdm];exact hvl
 have hl:(d.map eI.row).toList.map (fun z=>z.1.2)=ll:=by rw[hdm];exact hll
 have hvB:d.toList.map eI.val=vs:=by rw[←hv,Array.toList_map,List.map_map];rfl
 have hds:d.size=vs.length:=by rw[←hvB];simp
 have hg:∀ z:bI w B,∀ b,z.val.ownBlock=some b→b≠g:=fun z b hb e=>by
  rcases eE z.2.1 h.out (by decide) with q | q
  ·rw[show z.1.1.ownBlock=some b from hb] at q;cases q
  exact q (by rw[show z.1.1.ownBlock=some b from hb,e];rfl)
 have hgb:g<w.heap.size:=gZ h.out rfl;have eg:∀ args w,(callFunc 80 args).run Tryz.prog w=.ok (.enter 80 args) w:=enters_of Tryz.func80 (by kernel_rfl) rfl;have hcmp:CmpLays1 (α:=eI w B) Tryz.prog 80 #[] eI.val eI.cmp g 0 d.size w:=by
  refine CmpReads.lays (fun m os dk _ x y=>?_);rw[uL];obtain⟨b1,n1,c1,e1,hn1,hc1⟩:=x.row.cell (hg x.row) m os (dk.map eI.row);obtain⟨b2,n2,c2,e2,hn2,hc2⟩:=y.row.cell (hg y.row) m os (dk.map eI.row);show Calls _ _ #[x.row.val,y.row.val] _ _;rw[e1,e2];exact aGN b1 b2 n1 n2 c1 c2 x.row.key y.row.key _ hn1 hn2 (by have h1:_∧_:=x.2;have h2:_∧_:=y.2;change (-1000000≤x.row.key∧x.row.key≤1000000) at h1;change (-1000000≤y.row.key∧y.row.key≤1000000) at h2;exact IntWalk.i64_in _ (by omega)) hc1 hc2
 have hcon:=Any.slices_SortFunc Tryz.mN eI.val eI.one eI.cmp eI.swo 80 #[] g 0 cap d w eg hcmp (jC h.out hvB) hgb (by omega)
 change Calls Tryz.prog 79 _ _ _ at hcon
 rw[hds] at hcon;refine hcon.mono ?_;rintro e w' ⟨rfl,d',n,os,hp,hs,rfl⟩;obtain⟨p1,-,p3⟩:=hp;have q1:(d'.extract 0 vs.length)=d':=by rw[←hds,←p1];simp
 have q2:(d.extract 0 vs.length)=d:=by rw[←hds];simp
 rw[q1,q2] at p3;have p4:(d'.map eI.row).toList.Perm (d.map eI.row).toList:=by
  rw[Array.toList_map,Array.toList_map];exact p3.map _
 have hs2:Go.Sort.SortedIn (ltOf bI.cmp) 0 (d.map eI.row).size (d'.map eI.row):=by
  intro i j h1 h2 h3;rw[Array.size_map] at h3;have hsz:d'.size=d.size:=p1;have h4:=hs i j h1 h2 (by omega);rw[eI.lt,getElem!_pos d' _ (by omega),getElem!_pos d' _ (by omega)] at h4;rw[bI.lt,getElem!_pos (d'.map eI.row) _ (by simp;omega),getElem!_pos (d'.map eI.row) _ (by simp;omega),Array.getElem_map,Array.getElem_map];exact h4
 obtain⟨vs',ll',r1,r2,r3,r4⟩:=aR.sorted (m:=n) (os:=os) h hv hl p4 hs2 hg;rw[uL];exact⟨rfl,vs',ll',r1,r2,r3,r4,iS bI.val w g n os _⟩
theorem aR.aB {w w':World} {B:Nat} {ov:Value} {vs:List Value} {ll:List (List Int)} {k:Nat} {l:List Int} (h:aR w B ov vs ll) (hk:k<vs.length) (hr:w'.ownsRow B 3 1 (vs.getD k undef) l.length (ints l)) (hc:Chg (vs.getD k undef).ownBlock.toList w w'):aR w' B ov vs (ll.set k l):=by
 have hl:=h.len;refine⟨cR h.out hc fun b hb hm=>?_,by simpa using hl,fun j hj=>?_,h.apart⟩
 ·rcases eE (h.rows k hk) h.out (by decide) with q | q
  ·rw[q] at hm;cases hm
  exact q (by rw[hb];simpa using hm)
 rw[yX _ _ _ _ (by omega)];by_cases e:j=k
 ·subst e;rw[if_pos rfl];exact hr
 rw[if_neg e];refine cR (h.rows j hj) hc fun b hb hm=>?_;rcases h.apart j k hj hk e with q | q
 ·rw[q] at hb;cases hb
 exact q (by rw[hb];exact (by simpa using hm:_=some b).symm)
theorem aR.aHR {w:World} {B:Nat} {ov:Value} {vs:List Value} {ll:List (List Int)} (h:aR w B ov vs ll) {k:Nat} (hk:k<ll.length):∃ g c uo uc,ov=.slice (some ⟨g,0,none⟩) ll.length c∧w.cell? ⟨g,k,none⟩=some (.slice uo (ll.getD k []).length uc)∧vs.getD k undef=.slice uo (ll.getD k []).length uc:=by
 have hl:=h.len;obtain⟨g,c,e⟩:=dP h.out (by omega);obtain⟨uo,uc,e2⟩:=bR (h.rows k (by omega));have ho:=h.out;rw[e] at ho;refine⟨g,c,uo,uc,by rw[e,hl],?_,e2⟩;rw[ho.cellAt k (by omega),←e2];simp[List.getD,show k<vs.length by omega]
structure vG (w:World) (yb B:Nat) (tv:Value) (rg rc:Nat) (vs:List Value) (R:List (List Int)) (k:Nat) (yo:Option Addr) (yc:Nat) (us:List Value):Prop where
 var:w.heap[yb]?=some (.cells #[tv,.slice yo us.length yc] 32 (0,0))
 rows:aR w B (.slice (some ⟨rg,0,none⟩) R.length rc) vs (aA.qM R k)
 ys:aR w B (.slice yo us.length yc) us (aA.pY R k)
 of_:∀ i,i<us.length→∃ j,j<k∧us.getD i undef=vs.getD j undef
 two:(Value.slice yo us.length yc).ownBlock≠some rg
theorem vG.cell {w:World} {yb B:Nat} {tv:Value} {rg rc:Nat} {vs:List Value} {R:List (List Int)} {k:Nat} {yo:Option Addr} {yc:Nat} {us:List Value} (h:vG w yb B tv rg rc vs R k yo yc us) (hk:k<R.length) :
  ∃ uo uc,w.cell? ⟨rg,k,none⟩=some (.slice uo (R.getD k []).length uc)∧vs.getD k undef=.slice uo (R.getD k []).length uc∧w.ownsRow B 3 1 (vs.getD k undef) (R.getD k []).length (ints (R.getD k [])):=by
 have hr:=h.rows;obtain⟨g,c,uo,uc,e,h1,h2⟩:=hr.aHR (k:=k) (by rw[aA.oO];exact hk);simp only[Value.slice.injEq,Option.some.injEq,Addr.mk.injEq,and_true] at e;obtain⟨rfl,-,rfl⟩:=e;have h3:=hr.rows k (by rw[hr.len,aA.oO];exact hk);rw[aA.aCp hk (Nat.le_refl k)] at h1 h2 h3;exact⟨uo,uc,h1,h2,h3⟩
theorem aR.slot {w w':World} {B g m c:Nat} {vs:List Value} {ll:List (List Int)} (h:aR w B (.slice (some ⟨g,0,none⟩) m c) vs ll) {k:Nat} (hk:k<vs.length) (hc:Chg (vs.getD k undef).ownBlock.toList w w') :
  w'.cell? ⟨g,k,none⟩=some (vs.getD k undef)∧w'.frozen? ⟨g,k,none⟩=false:=by
 have ho:=cR h.out hc fun b hb hm=>by
  rcases eE (h.rows k hk) h.out (by decide) with q | q
  ·rw[q] at hm;cases hm
  exact q (by rw[hb];simpa using hm)
 obtain⟨ao,c2,e⟩:=bR ho;cases e;obtain⟨cs,hh⟩:=fB ho (b:=g) rfl;exact⟨by rw[ho.cellAt k (by omega)];simp[List.getD,hk],bM hh k⟩
theorem vG.skip {w:World} {yb B:Nat} {tv:Value} {rg rc:Nat} {vs:List Value} {R:List (List Int)} {k:Nat} {yo:Option Addr} {yc:Nat} {us:List Value} (h:vG w yb B tv rg rc vs R k yo yc us) (hk:k<R.length) (hl:¬ 1<(R.getD k []).length):vG w yb B tv rg rc vs R (k+1) yo yc us:=by
 have e1:=aA.aEK hk hl;have e2:=aA.aFe hk hl;exact⟨h.var,by rw[e1];exact h.rows,by rw[e2];exact h.ys,fun i hi=>by
  obtain⟨j,hj,e⟩:=h.of_ i hi;exact⟨j,by omega,e⟩,h.two⟩
theorem vG.sort {w w':World} {yb B:Nat} {tv:Value} {rg rc:Nat} {vs:List Value} {R:List (List Int)} {k:Nat} {yo:Option Addr} {yc:Nat} {us:List Value} (h:vG w yb B tv rg rc vs R k yo yc us) (hk:k<R.length)
  (hr:w'.ownsRow B 3 1 (vs.getD k undef) ((R.getD k []).mergeSort fun x y=>decide (x≤y)).length (ints ((R.getD k []).mergeSort fun x y=>decide (x≤y)))) (hc:Chg (vs.getD k undef).ownBlock.toList w w') :
  w'.heap[yb]?=some (.cells #[tv,.slice yo us.length yc] 32 (0,0))∧aR w' B (.slice (some ⟨rg,0,none⟩) R.length rc) vs (aA.qM R (k+1))∧aR w' B (.slice yo us.length yc) us (aA.pY R k):=by
 have hvl:vs.length=R.length:=by rw[h.rows.len,aA.oO]
 have hrk:=h.rows.rows k (by omega);refine⟨hc.heap h.var fun hm=>?_,?_,h.ys.chg hc (fun b hb hm=>?_) fun i b hi hb hm=>?_⟩
 ·obtain⟨cs,hh⟩:=fB hrk (by simpa using hm:_=some yb)
  rw[h.var] at hh;simp at hh
 ·rw[aA.yJ hk]
  exact h.rows.aB (by omega) hr hc
 ·rcases eE hrk h.ys.out (by decide) with q | q
  ·rw[q] at hm;cases hm
  exact q (by rw[hb];simpa using hm)
 obtain⟨j,hj,e⟩:=h.of_ i hi;rw[e] at hb;rcases h.rows.apart j k (by omega) (by omega) (by omega) with q | q
 ·rw[q] at hb;cases hb
 exact q (by rw[hb];exact (by simpa using hm:_=some b).symm)
theorem vG.step {w w7 w8:World} {yb B:Nat} {tv:Value} {rg rc:Nat} {vs:List Value} {R:List (List Int)} {k:Nat} {yo:Option Addr} {yc:Nat} {us:List Value} {g8 c8:Nat} (h:vG w yb B tv rg rc vs R k yo yc us) (hk:k<R.length) (hl:1<(R.getD k []).length)
  (hr:w7.ownsRow B 3 1 (vs.getD k undef) ((R.getD k []).mergeSort fun x y=>decide (x≤y)).length (ints ((R.getD k []).mergeSort fun x y=>decide (x≤y)))) (hc:Chg (vs.getD k undef).ownBlock.toList w w7)
  (h8:w8.ownsRow B 27 1 (.slice (some ⟨g8,0,none⟩) (us.length+1) c8) (us.length+1) (us++[vs.getD k undef])) (hc8:Chg (Value.slice yo us.length yc).ownBlock.toList w7 w8) (hg8:(Value.slice yo us.length yc).ownBlock=some g8∨w7.heap.size≤g8) :
  vG (w8.setCell ⟨yb,1,none⟩ (.slice (some ⟨g8,0,none⟩) (us.length+1) c8)) yb B tv rg rc vs R (k+1) (some ⟨g8,0,none⟩) c8 (us++[vs.getD k undef])∧Chg (yb :: (Value.slice yo us.length yc).ownBlock.toList) w7 (w8.setCell ⟨yb,1,none⟩ (.slice (some ⟨g8,0,none⟩) (us.length+1) c8)):=by
 obtain⟨s1,s2,s3⟩:=h.sort hk hr hc;have hvl:vs.length=R.length:=by rw[h.rows.len,aA.oO]
 have e2:=aA.aEx hk hl;have hel:(us++[vs.getD k undef]).length=us.length+1:=by simp
 have hcs:Chg [yb] w8 (w8.setCell ⟨yb,1,none⟩ (.slice (some ⟨g8,0,none⟩) (us.length+1) c8)):=(Chg.refl _ w8).setCell (Or.inl (by simp)) _;have hyb:∀ b,(Value.slice yo us.length yc).ownBlock=some b→b≠yb:=fun b hb e=>by
  obtain⟨cs,hh⟩:=fB s3.out hb;rw[e,s1] at hh;simp at hh
 have s18:=hc8.heap s1 fun hm=>hyb yb (by simpa using hm) rfl;have noyb:∀ {v:Value} {n:Nat} {xs:List Value} {e:TypeId},e≠32→w8.ownsRow B e 1 v n xs→∀ b,v.ownBlock=some b→b ∉ [yb]:=fun he ho b hb hm=>by
  obtain⟨cs,hh⟩:=fB ho hb;rw[List.mem_singleton.1 hm,s18] at hh;simp at hh;exact he hh.2.symm
 have hadd:aR w8 B (.slice (some ⟨g8,0,none⟩) (us.length+1) c8) (us++[vs.getD k undef]) (aA.pY R (k+1)):=by
  rw[e2];refine s3.add hr (fun i b hi hb q=>?_) h8 hc8;obtain⟨j,hj,e⟩:=h.of_ i hi;rw[e] at hb;rcases h.rows.apart j k (by omega) (by omega) (by omega) with r | r
  ·rw[r] at hb;cases hb
  exact r (hb.trans q.symm)
 have hrows8:aR w8 B (.slice (some ⟨rg,0,none⟩) R.length rc) vs (aA.qM R (k+1)):=by
  refine s2.chg hc8 (fun b hb hm=>?_) fun i b hi hb hm=>?_
  ·have hb:rg=b:=by simpa[Value.ownBlock] using hb
   exact h.two (by rw[hb];simpa using hm)
  rcases eE (s2.rows i hi) s3.out (by decide) with q | q
  ·rw[q] at hb;cases hb
  exact q (by rw[hb];exact (by simpa using hm:_=some b).symm)
 refine⟨⟨?_,hrows8.chg hcs (noyb (by decide) hrows8.out) (fun i b hi hb=>noyb (by decide) (hrows8.rows i hi) b hb),?_,fun i hi=>?_,?_⟩,?_⟩
 ·rw[hel]
  exact heap_setCell_same s18 1 _
 ·rw[hel]
  exact hadd.chg hcs (noyb (by decide) hadd.out) (fun i b hi hb=>noyb (by decide) (hadd.rows i hi) b hb)
 ·rw[List.length_append] at hi
  by_cases e:i<us.length
  ·obtain⟨j,hj,e3⟩:=h.of_ i e
   exact⟨j,by omega,by rw[←e3];simp[List.getD,List.getElem?_append_left e]⟩
  have e4:i=us.length:=by simp at hi;omega
  exact⟨k,by omega,by rw[e4];simp[List.getD]⟩
 ·intro q
  simp only[Value.ownBlock,Option.some.injEq] at q;rcases hg8 with r | r
  ·exact h.two (by rw[r,q])
  have:=gZ s2.out (b:=rg) rfl;omega
 exact (hc8.mono (fun j hj=>Or.inl (List.mem_cons_of_mem _ hj))).trans hcs fun j hj=>Or.inl (by rw[List.mem_singleton.1 hj];simp)
end Go.Proofs.YtkacjmoamgjfpaaGreat
