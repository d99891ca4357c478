/- package sets: contracts of Add, Join, Same, Len, Count, Head. Conditions: an object that stands in memory, with fewer than 2^34 eM; any ints. -/
import Derived.Test.YtoiflofhcmjpoaaGreatD9SetsA
import Derived.Deep.RegionHeld3
open Go.Value renaming ownBlock→Qa
open List renaming idxOf_lt_length_iff→Qb
open Or renaming inl→Qc
namespace Go.Proofs.YtoiflofhcmjpoaaGreat
open Go.RowKit Go.Maps
theorem cw.aD {w w':World} {own gH:List Nat} {pb:Nat} {s:St} (h:cw w pb own s) (hc:ag gH w w') (hn:∀ b∈own,b ∉ gH):cw w' pb own s:=by
 obtain⟨mb,tv,uv,up,h,rfl⟩:=h;exact⟨mb,tv,uv,up,h.aD hc hn,rfl⟩
theorem cw.ok {w:World} {own:List Nat} {pb:Nat} {s:St} (h:cw w pb own s):s.Ok:=by
 obtain⟨mb,tv,uv,up,h,rfl⟩:=h;have hl:up.length=s.dx.length:=h.up.1;exact⟨h.len,h.nodup,fun i hi=>(h.up.le i (by omega)).1,fun i hi=>h.up.own (by omega)⟩
theorem aM.aae {w:World} {pb mb g cap n:Nat} {uv:Value} {up:List Nat} {s:St} (h:aM w pb mb (.slice (some ⟨g,0,none⟩) n cap) uv up s) (hn:n=s.all.length) (i:Nat) (hi:i<s.all.length):w.cell? ⟨g,i,none⟩=some (.int .i64 (s.all.getD i 0)):=by
 subst hn;rw[h.eM.cellAt i (by omega)]
 grind
theorem Pg (pb mb:Nat) (tv uv:Value) (up:List Nat) (s:St) (i:Nat) (w:World) (hi:i<s.all.length) (h:aM w pb mb tv uv up s) :
  Calls Tryz.prog 144 #[.pointer (some ⟨pb,0,none⟩),.int .i64 i] w fun e w'=>e=.returned (.int .i64 (s.hd i))/\∃ iX,aM w' pb mb tv uv iX s/\ag uv.ownBlock.toList w w':=by
 have hl:up.length=s.all.length:=by rw[h.up.1,h.len]
 obtain⟨g,cap,rfl⟩:=cD h.CV (by omega);exact (CH pb mb g cap tv up s i w (by omega) h).mono fun e w' ⟨he,⟨iX,hu,dU,_⟩,dV⟩=>⟨he,iX,dU,dV⟩
theorem Be (pb:Nat) (own:List Nat) (s:St) (i:Nat) (w:World) (hi:i<s.all.length) (h:cw w pb own s) :
  Calls Tryz.prog 144 #[.pointer (some ⟨pb,0,none⟩),.int .i64 i] w fun e w'=>e=.returned (.int .i64 (s.hd i))/\lq w pb own w' s:=by
 obtain⟨mb,tv,uv,up,h,rfl⟩:=h;have hl:up.length=s.all.length:=by rw[h.up.1,h.len]
 obtain⟨g,cap,rfl⟩:=cD h.CV (by omega);refine (CH pb mb g cap tv up s i w (by omega) h).mono fun e w' ⟨he,⟨iX,hu,dU,_⟩,dV⟩=>⟨he,aM.blocks pb mb tv (.slice (some ⟨g,0,none⟩) up.length cap),⟨mb,tv,_,iX,dU,rfl⟩,?_,fun j hj=>Qc hj⟩;exact dV.mono (fun j hj=>Qc (by simp at hj;subst hj;simp[aM.blocks,Qa]))
theorem RH (pb:Nat) (own:List Nat) (s:St) (x:Int) (w:World) (hx:aU x) (hn:s.all.length<34359738368) (h:cw w pb own s) :
  Calls Tryz.prog 93 #[.pointer (some ⟨pb,0,none⟩),.int .i64 x] w fun e w'=>e=.returned (.bool (decide (x ∉ s.all)))/\lq w pb own w' (s.put x):=by
 go_enter Tryz.func93,Tryz.ntmps93
 go_wp2_with fail
 refine (zG pb own s x _ hx h).mono ?_;rintro e w1 ⟨rfl,cY⟩;have h1:=h.aD cY (by simp);obtain⟨mb,tv,uv,up,h1',-⟩:=id h1;obtain⟨ao,xh,rfl⟩:=bk h1'.eM;have c1:=h1'.c1;clear h1'
 go_wp2_with fail
 refine (Aq pb own s x _ hx hn h1).mono ?_;rintro e w2 ⟨rfl,ht⟩;have HT:=lh (ht.behind cY);clear ht c1;go_wp2;go_ret;refine⟨bm ?_,HT.out⟩
 all_goals grind [St.iU,St.dX,uq]
theorem Fc {pb mb g cap:Nat} {tv:Value} {up:List Nat} {s:St} {w:World} {n:Nat} (h:aM w pb mb tv (.slice (some ⟨g,0,none⟩) n cap) up s) (hn:n=up.length) {i j:Nat} (hi:i<up.length) (hj:j<up.length) (ei:s.hd i=i) (ej:s.hd j=j) (ne:i≠j) :
  aM ((w.setCell ⟨g,max i j,none⟩ (.int .i64 ((min i j:Nat):Int))).setCell ⟨pb,3,none⟩ (.int .i64 ((s.count:Int) - 1))) pb mb tv (.slice (some ⟨g,0,none⟩) n cap) (up.set (max i j) (min i j)) ⟨s.all,relabel s.dx i j⟩:=by
 obtain⟨n1,n2,n3⟩:=h.UT;subst hn;have hl:up.length=s.dx.length:=h.up.1;have ei':up.getD i 0=i:=by have:=(h.up.le i hi).2;rwa[show s.dx.getD i 0=i from ei] at this
 have ej':up.getD j 0=j:=by have:=(h.up.le j hj).2;rwa[show s.dx.getD j 0=j from ej] at this
 have hs:=h.CV.stored (max i j) (.int .i64 ((min i j:Nat):Int));have hg:=hs.2;have cY:(w.setCell ⟨g,max i j,none⟩ (.int .i64 ((min i j:Nat):Int))).heap[pb]?=_:=(Below.heap_setCell _ _ _ _ (by grind)).trans h.cells;have dV:ag [pb] (w.setCell ⟨g,max i j,none⟩ (.int .i64 ((min i j:Nat):Int))) ((w.setCell ⟨g,max i j,none⟩ (.int .i64 ((min i j:Nat):Int))).setCell ⟨pb,3,none⟩ (.int .i64 ((s.count:Int) - 1))):=(ag.refl _ _).setCell (by simp) _;have hct:=St.wP (all:=s.all) (by omega:i<s.dx.length) (by omega:j<s.dx.length) ei ej ne;refine⟨?_,?_,?_,?_,h.apart,h.up.join hi hj ei' ej' ne,by simp[relabel,h.len],h.nodup,h.small⟩
 ·rw[heap_setCell_same cY]
  have:((s.count:Int) - 1)=((St.count ⟨s.all,relabel s.dx i j⟩:Nat):Int):=by
   have e:s.count=St.count ⟨s.all,s.dx⟩:=rfl;omega
  rw[this];rfl
 ·exact (h.map.kept hg (by grind)).aD dV (by simpa using (h.map.ne h.cells).symm)
 ·refine aY (h.eM.kept hg (Or.inr n3)) dV (fun b hb e=>?_)
  simp at e;subst e;obtain⟨g',cap,cur,rfl,-,hg,-⟩:=h.eM.2.resolve_left (by rintro ⟨rfl,_⟩;simp[Qa] at hb);simp[Qa] at hb;rw[hb,h.cells] at hg;simp at hg
 refine aY ?_ dV (by simpa[Qa] using n1);have:=hs.1;rw[List.length_set,List.map_set];exact this
theorem NR (pb:Nat) (own:List Nat) (s:St) (x y:Int) (w:World) (hx:aU x) (hy:aU y) (hn:s.all.length<17179869184) (h:cw w pb own s) :
  Calls Tryz.prog 94 #[.pointer (some ⟨pb,0,none⟩),.int .i64 x,.int .i64 y] w fun e w'=>e=.returned (.bool (s.AW x y))/\lq w pb own w' (s.join x y):=by
 go_enter Tryz.func94,Tryz.ntmps94
 go_wp2_with fail
 refine (zG pb own s x _ hx h).mono ?_;rintro e w1 ⟨rfl,cY⟩;have h1:=h.aD cY (by simp)
 go_wp2_with fail
 refine (zG pb own s y _ hy h1).mono ?_;rintro e w2 ⟨rfl,bA⟩;have h2:=h1.aD bA (by simp);have Dv:=s.zE x;have Az:=(s.put x).zE y
 go_wp2_with fail
 refine (Aq pb own s x _ hx (by omega) h2).mono ?_;rintro e w3 ⟨rfl,own3,h3,cT,hs3⟩
 go_wp2_with fail
 refine (Aq pb own3 (s.put x) y _ hy (by omega) h3).mono ?_;rintro e w4 ⟨rfl,own4,h4,gR,hs4⟩;have HI:=lh (St.lU (s:=s.put x) y (s.lD x));have hi:(s.put x).all.idxOf x<((s.put x).put y).all.length:=by rw[<-HI.out];exact Qb.2 (St.jJ y (s.lD x))
 have hj:((s.put x).put y).all.idxOf y<((s.put x).put y).all.length:=Qb.2 (St.lD _ _);have hb:((s.put x).put y).all.length<=17179869186:=by omega
 have HJ:=lh (s.Lq x y);have HK:=lh (s.join_eq x y);generalize (s.put x).all.idxOf x=i at *;generalize ((s.put x).put y).all.idxOf y=j at *;generalize (s.put x).put y=t at *;clear h h1 h2 h3 Dv Az HI
 go_wp2_with fail
 refine (Be pb own4 t i _ hi h4).mono ?_;rintro e w5 ⟨rfl,own5,h5,eO,hs5⟩
 go_wp2_with fail
 refine (Be pb own5 t j _ hj h5).mono ?_;rintro e w6 ⟨rfl,own6,h6,hc6,hs6⟩;have HT:Hid (∀ w' t',lq w6 pb own6 w' t'->lq w pb own w' t'):=fun w' t' k=>(((((k.comp hc6 hs6).comp eO hs5).comp gR hs4).comp cT hs3).behind bA).behind cY;clear cY bA cT gR eO hc6 hs3 hs4 hs5 hs6 h4 h5;have iL:=h6.ok;have xA:=iL.le i (by rw[<-iL.len];exact hi);have hj':=iL.le j (by rw[<-iL.len];exact hj);have HP:=lh (iL.own i (by rw[<-iL.len];exact hi));have HQ:=lh (iL.own j (by rw[<-iL.len];exact hj));have hp:t.hd i<t.all.length:=by omega
 have hq:t.hd j<t.all.length:=by omega
 clear hi hj xA hj' iL;generalize t.hd i=p at *;generalize t.hd j=q at *;by_cases e:p=q
 ·subst e
  go_wp2;go_ret;exact⟨bm (by rw[HJ.out];simp),by rw[HK.out,pM];exact HT.out _ _ (lq.refl h6)⟩
 have e2:(((p:Nat):Int)==((q:Nat):Int))=false:=by rw[beq_eq_false_iff_ne];omega
 obtain⟨mb,tv,uv,up,Dy,rfl⟩:=h6;have BO:up.length=t.all.length:=by rw[Dy.up.1,Dy.len]
 obtain⟨g,cap,rfl⟩:=cD Dy.CV (by omega);have c2:=Dy.c2;have c3:=Dy.c3;have f3:=Dy.free 3;have bh:=Dy.UT.1;have mm:=t.count_le;have qG:=Dy.len;have nt:t.count<=34359738368:=by omega
 have HC:=lh (Fc Dy rfl (i:=p) (j:=q) (by omega) (by omega) HP.out HQ.out e);have HH:=lh Dy;have hpu:p<up.length:=by omega
 have hqu:q<up.length:=by omega
 have n1:g∈aM.blocks pb mb tv (.slice (some ⟨g,0,none⟩) up.length cap):=by simp[aM.blocks,Qa]
 have n2:pb∈aM.blocks pb mb tv (.slice (some ⟨g,0,none⟩) up.length cap):=by simp[aM.blocks]
 clear mm qG;rcases Nat.lt_or_gt_of_ne e with aL | aL
 ·have cq:=Dy.uw rfl q (by omega)
  have fq:=Dy.Fu rfl q;have cB:=HC.out;rw[Nat.max_eq_right (by omega),Nat.min_eq_left (by omega)] at cB;have cU:=lh cB;clear Dy BO cB HC;go_wp2;go_ret;exact⟨bm (by rw[HJ.out];simpa using e),by rw[HK.out];exact HT.out _ _ ⟨_,⟨mb,tv,_,_,cU.out,rfl⟩,((ag.refl _ _).setCell (Qc n1) _).setCell (Qc n2) _,fun _ hj=>Qc hj⟩⟩
 have cq:=Dy.uw rfl p (by omega);have fq:=Dy.Fu rfl p;have cB:=HC.out;rw[Nat.max_eq_left (by omega),Nat.min_eq_right (by omega)] at cB;have cU:=lh cB;clear Dy BO cB HC;go_wp2;go_ret;exact⟨bm (by rw[HJ.out];simpa using e),by rw[HK.out];exact HT.out _ _ ⟨_,⟨mb,tv,_,_,cU.out,rfl⟩,((ag.refl _ _).setCell (Qc n1) _).setCell (Qc n2) _,fun _ hj=>Qc hj⟩⟩
end Go.Proofs.YtoiflofhcmjpoaaGreat
