/- What crosses on a ring of vertices, by places; a ring cut in two. No program here. -/
import Derived.Test.YtoiflofhcmjpoaaGreatD9Sm12
open List renaming length_map→Qa,getD→Qb,idxOf_lt_length_iff→Qc,getElem?_eq_getElem→Qd,length_cons→Qe,length_eraseIdx→Qf,getElem_of_mem→Qg,range→Qh,getElem?_map→Qi,mem_range→Ql,Perm→Qm,mem_map→Qn
open Option renaming getD_some→Qj,map_some→Qk
open Nat renaming add_comm→Qo,add_mul→Qp
namespace Go.Proofs.YtoiflofhcmjpoaaGreat.Plain
section
variable {a z : Int} {A B I : List Int}
end
structure Emb (g:Gr) (s:Sk) (a:List Int->Int):Prop where
 pos:∀ c∈s.rest,0<=a c.aq/\(a c.aq).toNat<s.ak.length/\∀ v∈c.ends,v∈(cr s.ak (a c.aq)).map g.tail
 atH:∀ c∈s.rest,∀ d∈s.rest,c.aq≠d.aq->a c.aq=a d.aq->¬ ajv ((cr s.ak (a c.aq)).map g.tail) c.ends d.ends
 en:∀ f∈s.ak,(f.map (· / 2)).Nodup
end Go.Proofs.YtoiflofhcmjpoaaGreat.Plain
namespace Go.Proofs.YtoiflofhcmjpoaaGreat.Plain
theorem Fv {g:Gr} {b:Pt} (hb:aB g b) (hS:cQ g b):∀ u∈b.v,∀ v∈b.v,b9 g b (-1) u v:=by
 intro u hu v hv;have pos:∀ x∈b.v,x≠-1:=fun x hx=>by have:=(hb.vr x hx).1;omega
 have Wy:∀ e∈b.e,∀ x y,dG g e x->dG g e y->b9 g b (-1) x y:=fun e he x y hx hy=>by
  have kD:=hb.ends e he;rcases hx with rfl | rfl <;> rcases hy with rfl | rfl
  ·exact .here
  ·exact .step .here ⟨e,he,Or.inl rfl⟩ (pos _ kD.2)
  ·exact .step .here ⟨e,he,Or.inr rfl⟩ (pos _ kD.1)
  exact .here
 obtain⟨d,hd,rfl⟩:=hS.2 u hu;obtain⟨f,hf,rfl⟩:=hS.2 v hv;have A7:=aw.1 hd;have NU:=aw.1 hf;by_cases q:d / 2=f / 2
 ·exact Wy _ A7 _ _ (jL g d).1 (q ▸ (jL g f).1)
 have iY:=nC hS _ A7 _ NU _ hu;have hc:b9 g b (g.tail d) (off g (g.tail d) (d / 2)) (off g (g.tail d) (f / 2)):=Classical.byContradiction fun r=>iY ⟨q,Or.inr (Or.inr r)⟩;have up:∀ {x y},b9 g b (g.tail d) x y->b9 g b (-1) x y:=fun {x y} h=>by
  induction h with
  | here=>exact .here
  | step _ hn _ ih=>exact ih.step hn (pos _ (CE hb hn))
 exact ((Wy _ A7 _ _ (jL g d).1 pr).trans (up hc)).trans (Wy _ NU _ _ pr (jL g f).1)
end Go.Proofs.YtoiflofhcmjpoaaGreat.Plain
namespace Go.Proofs.YtoiflofhcmjpoaaGreat
open Go.RowKit Go.Maps
set_option maxRecDepth 100000 in
set_option maxHeartbeats 2000000 in
theorem sj (vg vp vt:Value) (g:Plain.Gr) (p:Plain.Pt) (aa:List (List Int)) (w:World) (qM:p.e.length<=100000) (wB:p.v.length<=100000) (DK:aa.length<2147483648) (hS:Plain.bU aa aa.length<2147483648) (hg:dJ w vg g) (hp:fL w vp p) (ht:cf w vt aa) :
  Calls Tryz.prog 29 #[vg,vp,vt] w fun e w'=>e=.returned (.bool (decide (Plain.df g p aa=0)))/\ag [] w w':=by
 have HG:=lh hg;have HP:=lh hp;have HT:=lh ht;have rn:=lh hS;obtain⟨eo,cap,rfl,hn,hm,dK,aK⟩:=hg;obtain⟨v1,v2,rfl,hv,he⟩:=hp;obtain⟨ao,ac,rfl,has,DA,jy⟩:=hv;obtain⟨bo,bc,rfl,wE,sQ,ft⟩:=he;obtain⟨UI,tc,rfl,wu,wY⟩:=ht;obtain⟨-,-,cY⟩:=eZ w #[.int .i64 g.n,.slice eo g.e.length cap] #[.slice ao p.v.length ac,.slice bo p.e.length bc] 24 27;have b8:=lh cY;clear aK jy ft dK wE has hn cY wY hS
 go_enter Tryz.func29,Tryz.ntmps29
 go_wp2_with fail
 refine (KH _ _ _ g p aa _ qM wB DK rn.out (HG.out.fresh b8.out) (HP.out.fresh b8.out) (HT.out.fresh b8.out)).mono ?_;rintro e w2 ⟨ov,rfl,fQ,fh,bA⟩;have cB:=lh (b8.out.t bA);clear bA;by_cases hr:Plain.bB g p aa=0
 ·obtain⟨W,Yp,aJ⟩:=fh hr
  have I7:=lh (Yp.eq (Plain.dQ hr).1);have HR:=lh hr;have NQ:=lh (show Plain.Flat g p aa↔∀ i,i<((Plain.roots g p).map (Plain.de g p W)).length->((Plain.roots g p).map (Plain.de g p W)).getD i 0=0 by
   unfold Plain.Flat;rw[<-I7.out];constructor
   ·intro h i hi
    rw[Qa] at hi;have:=h ((Plain.roots g p).getD i 0) (Plain.aQ hi);simpa[Qb,hi] using this
   intro h r hr;obtain⟨i,hi,e⟩:=Qg hr;have:=h i (by rw[Qa];exact hi);simpa[Qb,hi,e] using this)
  rw[hr];obtain⟨oo,oc,rfl⟩:=aJ.shape;have bt:=lh aJ.ints;have GD:=aJ.2.2;clear fQ fh Yp aJ hr I7;generalize (Plain.roots g p).map (Plain.de g p W)=G at *;go_wp2
  go_loopw [22] (fun c wr=>∃ k:Nat,k<=G.length/\c=.int .i64 k/\Hid (∀ i,i<k->G.getD i 0=0)/\ag [] w2 wr) (fun c _=>G.length - (intOf c).toNat)
  case atStart=>exact⟨0,Nat.zero_le _,rfl,lh (fun i hi=>by omega),ag.refl _ _⟩
  case round =>
   obtain⟨k,hk,rfl,hz,hc⟩:=hrel;have HC:=lh (cB.out.t hc);have zB:=lh hc;by_cases aL:k<G.length
   ·obtain⟨TS,c',e,-,-,ka⟩:=bt.out
    obtain⟨vb,ZV,e2,aK⟩:=ka (by intro e;rw[e] at aL;simp at aL);simp only[Value.slice.injEq] at e;obtain⟨e3,-,-⟩:=e;rw[e2] at e3;subst e3;have ck:=hc.c (aK k aL);have aaR:=lh (fun (h:G.getD k 0≠0)=>show decide (Plain.df g p aa=0)=false from decide_eq_false fun q=>h (NQ.out.1 (Plain.gC q).2 k aL));obtain⟨z,nO⟩:∃ z,G.getD k 0=z:=⟨_,rfl⟩;have HZ:=lh nO;rw[nO] at ck aaR;clear aK ka nO hc;by_cases h0:z=0
    ·subst h0
     go_wp2
     go_roundw
     case rel=>exact⟨k+1,by omega,by go_num,lh (fun i hi=>by
       by_cases e:i=k
       ·rw[e];exact HZ.out
       exact hz.out i (by omega)),zB.out⟩
     case measure=>simp[intOf];omega
    have HB:=lh (aaR.out h0);go_wp2;go_ret;exact⟨bm HB.out.symm,HC.out⟩
   have e:k=G.length:=by omega
   subst e;have HB:=lh (show decide (Plain.df g p aa=0)=true from decide_eq_true (Plain.uC HR.out (NQ.out.2 hz.out)));clear hc;go_wp2;go_ret;exact⟨bm HB.out.symm,HC.out⟩
 have HB:=lh (show decide (Plain.df g p aa=0)=false from decide_eq_false fun q=>hr (Plain.gC q).1);obtain rfl:=fQ hr;obtain⟨er,mf⟩:∃ er,Plain.bB g p aa=er:=⟨_,rfl⟩;rw[mf] at hr ⊢;have hb:(er != 0)=true:=by simpa using hr
 have ff:¬ er=0:=hr;clear mf fQ fh;go_wp2;go_ret;exact⟨bm HB.out.symm,cB.out⟩
end Go.Proofs.YtoiflofhcmjpoaaGreat
namespace Go.Proofs.YtoiflofhcmjpoaaGreat.Plain
def dR:Nat->List Int->List (List Int)
 | 0,l=>[l]
 | n+1,l=>(Qh (n+1)).flatMap fun j=>(dR n (l.getD (j+1) 0 :: (l.drop 1).eraseIdx j)).map (l.getD 0 0 :: ·)
def fO (l:List Int):List (List Int):=dR (l.length - 1) l
def fact:Nat->Nat
 | 0=>1
 | n+1=>(n+1)*fact n
theorem vB:∀ n,0<fact n
 | 0=>by decide
 | n+1=>Nat.mul_pos (by omega) (vB n)
theorem jY {α β:Type} {f:α->List β} {c:Nat}:∀ {l:List α},(∀ x∈l,(f x).length=c)->(l.flatMap f).length=l.length*c
 | [],_=>by simp
 | x :: l,h=>by
  rw[List.flatMap_cons,List.length_append,h x (by simp),jY fun y hy=>h y (List.mem_cons_of_mem _ hy),Qe,Qp];omega
theorem fu:∀ (n:Nat) (l:List Int),(dR n l).length=fact n
 | 0,l=>rfl
 | n+1,l=>by
  show ((Qh (n+1)).flatMap _).length=_;rw[jY (c:=fact n) fun j _=>by rw[Qa,fu n]];rw[List.length_range];rfl
theorem oT {l:List Int} {j:Nat} (hj:j<l.length):(l.getD j 0 :: l.eraseIdx j).Perm l:=by
 rw[List.eraseIdx_eq_take_drop_succ];have h1:l.getD j 0=l[j]:=by simp[Qb,hj]
 have h2:l=l.take j++l[j] :: l.drop (j+1):=by rw[<-List.drop_eq_getElem_cons hj,List.take_append_drop]
 rw[h1];exact (List.perm_middle.symm).trans (Qm.of_eq h2.symm)
theorem iA:∀ {n:Nat} {l m:List Int},l.length=n+1->(m∈dR n l↔m.Perm l/\m.getD 0 0=l.getD 0 0)
 | 0,l,m,hl=>by
  rw[dR,List.mem_singleton];constructor
  ·rintro rfl;exact⟨List.Perm.refl _,rfl⟩
  rintro ⟨h1,-⟩;obtain⟨a,rfl⟩:=List.length_eq_one_iff.1 hl;exact List.perm_singleton.1 h1
 | n+1,l,m,hl=>by
  rw[dR,List.mem_flatMap];obtain⟨a,r,rfl⟩:∃ a r,l=a :: r:=by
   cases l with
   | nil=>simp at hl
   | cons a r=>exact⟨a,r,rfl⟩
  have hr:r.length=n+1:=by simpa using hl
  have hg:∀ j,(a :: r).getD (j+1) 0=r.getD j 0:=fun j=>rfl;simp only[hg,List.drop_succ_cons,List.drop_zero,List.getD_cons_zero];constructor
  ·rintro ⟨j,hj,h⟩
   have hj:=Ql.1 hj;obtain⟨m',Um,rfl⟩:=Qn.1 h;have h1:=(iA (by rw[Qe,Qf,if_pos (by omega)];omega)).1 Um;exact⟨((h1.1.trans (oT (by omega))).cons a),rfl⟩
  rintro ⟨h1,h2⟩;obtain⟨b,m',rfl⟩:∃ b m',m=b :: m':=by
   cases m with
   | nil=>have:=h1.length_eq;simp at this
   | cons b m'=>exact⟨b,m',rfl⟩
  have h2:b=a:=h2;subst h2;have h3:m'.Perm r:=Qm.cons_inv h1;obtain⟨x,m2,rfl⟩:∃ x m2,m'=x :: m2:=by
   cases m' with
   | nil=>have:=h3.length_eq;simp at this;omega
   | cons b m'=>exact⟨b,m',rfl⟩
  have hx:x∈r:=h3.mem_iff.1 (by simp);have hj:r.idxOf x<r.length:=Qc.2 hx;have hxj:r.getD (r.idxOf x) 0=x:=by simp[Qb,hj]
  have h4:(x :: m2).Perm (r.getD (r.idxOf x) 0 :: r.eraseIdx (r.idxOf x)):=h3.trans (oT hj).symm;refine⟨r.idxOf x,Ql.2 (by omega),Qn.2 ⟨x :: m2,(iA (by rw[Qe,Qf,if_pos hj];omega)).2 ⟨h4,by rw[hxj];rfl⟩,rfl⟩⟩
theorem uM (l:List Int):(fO l).length=fact (l.length - 1):=fu _ _
theorem uy {l m:List Int} (hl:l≠[]):m∈fO l↔m.Perm l/\m.getD 0 0=l.getD 0 0:=iA (by have:=List.length_pos_iff.2 hl;omega)
def dZ:List (List (List Int))->Nat->List (List Int)
 | [],_=>[]
 | L :: R,n=>L.getD (n % L.length) [] :: dZ R (n / L.length)
def dq:List (List (List Int))->Nat
 | []=>1
 | L :: R=>L.length*dq R
theorem vO:∀ {R:List (List (List Int))} {m:List (List Int)},m.length=R.length->(∀ i,i<R.length->m.getD i []∈R.getD i [])->∃ n,n<dq R/\dZ R n=m
 | [],m,hl,_=>by
  have:m=[]:=List.length_eq_zero_iff.1 (by simpa using hl);exact⟨0,by decide,this.symm⟩
 | L :: R,m,hl,h=>by
  obtain⟨x,m',rfl⟩:∃ x m',m=x :: m':=by
   cases m with
   | nil=>simp at hl
   | cons x m'=>exact⟨x,m',rfl⟩
  obtain⟨n,h1,h2⟩:=vO (R:=R) (m:=m') (by simpa using hl) fun i hi=>h (i+1) (by simpa using hi);have hx:x∈L:=h 0 (by simp);obtain⟨d,hd,hdx⟩:=Qg hx;refine⟨n*L.length+d,?_,?_⟩
  ·show _<L.length*dq R
   have:n*L.length+L.length<=dq R*L.length:=by
    have:=Nat.mul_le_mul_right L.length (show n+1<=dq R by omega);rw[Qp] at this;omega
   rw[Nat.mul_comm L.length];omega
  show L.getD ((n*L.length+d) % L.length) [] :: dZ R ((n*L.length+d) / L.length)=_;have e1:(n*L.length+d) % L.length=d:=by rw[Qo,Nat.add_mul_mod_self_right,Nat.mod_eq_of_lt hd]
  have e2:(n*L.length+d) / L.length=n:=by rw[Qo,Nat.add_mul_div_right _ _ (by omega),Nat.div_eq_of_lt hd,Nat.zero_add]
  rw[e1,e2,h2];simp[Qb,hd,hdx]
def oS (N:Nat) (V:List Int) (rows:List (List Int)):List (List Int):=(Qh N).map fun v:Nat=>if (v:Int)∈V then rows.getD (V.idxOf (v:Int)) [] else []
def DY (g:Gr) (b:Pt) (n:Nat):List (List Int):=oS g.n.toNat b.v (dZ (b.v.map fun v=>fO (aF g b v)).reverse n).reverse
def fH (g:Gr) (b:Pt):Nat:=dq (b.v.map fun v=>fO (aF g b v)).reverse
noncomputable def l7 (g:Gr) (b:Pt):List (List (List Int)):=((Qh (fH g b)).map (DY g b)).filter fun t=>decide (df g b t=0)
theorem qW {l:List Int} {m:List Int} (bh:m≠[]) (hs:m.Pairwise (·<·)) (hp:l.Perm m):(first l).getD 0 0=m.getD 0 0:=by
 have hl:l≠[]:=fun q=>bh (by rw[q] at hp;exact Qm.eq_nil hp.symm);obtain⟨x,r,h1,h2⟩:=oU hl;rw[h1];cases m with
 | nil=>exact absurd rfl bh
 | cons y k =>
  show x=y;have hx:x∈y :: k:=hp.mem_iff.1 ((cI l).mem_iff.1 (by rw[h1];simp));have hy:=h2 y (hp.mem_iff.2 (by simp));rcases List.mem_cons.1 hx with r | r
  ·exact r
  have:=List.rel_of_pairwise_cons hs r;omega
theorem zt {g:Gr} {b:Pt} (hr:b.e.Pairwise (·<·)) (v:Int):(aF g b v).Pairwise (·<·):=(ig hr).filter _
theorem Bh {α:Type} {l:List α} {i:Nat} {d:α} (hi:i<l.length):l.reverse.getD i d=l.getD (l.length - 1 - i) d:=by
 have h2:l.length - 1 - i<l.length:=by omega
 simp[Qb,hi,h2]
theorem Oj {g:Gr} {b:Pt} {t:List (List Int)} (hb:b.err g=0) (vx:aR g b t) (hV:∀ v∈b.v,∃ d∈b.ah,g.tail d=v):∃ n,n<fH g b/\DY g b n=t.map first:=by
 have iM:=Pt.ay hb;have hr:=bM (Pt.aA hb).2.2.1;have N5:=(Gr.aA (Pt.aA hb).1).1;have hp:∀ v∈b.v,(az t v).Perm (aF g b v)/\aF g b v≠[]:=fun v hv=>by
  obtain⟨v0,v1⟩:=iM.vr v hv;refine⟨(List.perm_ext_iff_of_nodup (vx.nodup v) (eS iM.en v)).2 fun d=>by rw[vx.mem v v0 v1,bg],fun q=>?_⟩;obtain⟨d,hd,XZ⟩:=hV v hv;have:=bg.2 ⟨hd,XZ⟩;rw[q] at this;cases this
 obtain⟨n,h1,h2⟩:=vO (R:=(b.v.map fun v=>fO (aF g b v)).reverse) (m:=(b.v.map fun v=>first (az t v)).reverse) (by simp) fun i hi=>by
  rw[List.length_reverse,Qa] at hi;rw[Bh (by simpa using hi),Bh (by simpa using hi)];simp only[Qa];have aL:b.v.length - 1 - i<b.v.length:=by omega
  simp only[Qb,Qi,Qd aL,Qk,Qj];obtain⟨k1,k2⟩:=hp _ (List.getElem_mem aL);exact (uy k2).2 ⟨(cI _).trans k1,qW k2 (zt hr _) k1⟩
 refine⟨n,h1,?_⟩;unfold DY;rw[h2,List.reverse_reverse];have hl:=vx.len;refine List.ext_getElem (by simp[oS];omega) fun i k1 k2=>?_;rw[Qa] at k2;simp only[oS,List.getElem_map,List.getElem_range];have e1:az t i=t[i]:=by unfold az;simp[Qb,k2]
 rw[<-e1];by_cases q:(i:Int)∈b.v
 ·rw[if_pos q]
  have aL:b.v.idxOf (i:Int)<b.v.length:=Qc.2 q;simp only[Qb,Qi,Qd aL,Qk,Qj,List.getElem_idxOf aL]
 rw[if_neg q];have:az t i=[]:=by
  cases hq:az t i with
  | nil=>rfl
  | cons d l =>
   have:=(vx.mem i (by omega) (by omega) d).1 (by rw[hq];simp);exact absurd (this.2 ▸ (iM.aO this.1).1) q
 rw[this,Kr]
end Go.Proofs.YtoiflofhcmjpoaaGreat.Plain
