/- package sets: contracts of Add, Join, Same, Len, Count, Head. Conditions: an object that stands in memory, with fewer than 2^34 eD; any ints. -/
import Derived.Test.YtbkjljffnkdcjaaGreatD9SetsA
import Derived.Deep.RegionHeld3
open List renaming idxOf_lt_length_iff→Qa
open Go.Value renaming ownBlock→Qb
open Or renaming inl→Qc
namespace Go.Proofs.YtbkjljffnkdcjaaGreat
open Go.RowKit Go.Maps
theorem cF.aM {w w':World} {own lY:List Nat} {pb:Nat} {s:St} (h:cF w pb own s) (hc:ai lY w w') (hn:∀ b∈own,b ∉ lY):cF w' pb own s:=by
 obtain⟨mb,tv,uv,up,h,rfl⟩:=h;exact⟨mb,tv,uv,up,h.aM hc hn,rfl⟩
theorem cF.ok {w:World} {own:List Nat} {pb:Nat} {s:St} (h:cF w pb own s):s.Ok:=by
 obtain⟨mb,tv,uv,up,h,rfl⟩:=h;have hl:up.length=s.dp.length:=h.up.1;exact⟨h.len,h.nodup,fun i hi=>(h.up.le i (by omega)).1,fun i hi=>h.up.own (by omega)⟩
theorem aW.ab5 {w:World} {pb mb g cap n:Nat} {uv:Value} {up:List Nat} {s:St} (h:aW w pb mb (.slice (some ⟨g,0,none⟩) n cap) uv up s) (hn:n=s.all.length) (i:Nat) (hi:i<s.all.length):w.cell? ⟨g,i,none⟩=some (.int .i64 (s.all.getD i 0)):=by
 subst hn;rw[h.eD.cellAt i (by omega)];simp[List.getD,hi]
theorem UT (pb mb:Nat) (tv uv:Value) (up:List Nat) (s:St) (i:Nat) (w:World) (hi:i<s.all.length) (h:aW w pb mb tv uv up s) :
  Calls Tryz.prog 148 #[.pointer (some ⟨pb,0,none⟩),.int .i64 i] w fun e w'=>e=.returned (.int .i64 (s.hd i))/\∃ jX,aW w' pb mb tv uv jX s/\ai uv.ownBlock.toList w w':=by
 have hl:up.length=s.all.length:=by rw[h.up.1,h.len]
 obtain⟨g,cap,rfl⟩:=cN h.E6 (by omega);exact (DG pb mb g cap tv up s i w (by omega) h).mono fun e w' ⟨he,⟨jX,hu,dN,_⟩,dI⟩=>⟨he,jX,dN,dI⟩
theorem CX (pb:Nat) (own:List Nat) (s:St) (i:Nat) (w:World) (hi:i<s.all.length) (h:cF w pb own s) :
  Calls Tryz.prog 148 #[.pointer (some ⟨pb,0,none⟩),.int .i64 i] w fun e w'=>e=.returned (.int .i64 (s.hd i))/\mJ w pb own w' s:=by
 obtain⟨mb,tv,uv,up,h,rfl⟩:=h;have hl:up.length=s.all.length:=by rw[h.up.1,h.len]
 obtain⟨g,cap,rfl⟩:=cN h.E6 (by omega);refine (DG pb mb g cap tv up s i w (by omega) h).mono fun e w' ⟨he,⟨jX,hu,dN,_⟩,dI⟩=>⟨he,aW.blocks pb mb tv (.slice (some ⟨g,0,none⟩) up.length cap),⟨mb,tv,_,jX,dN,rfl⟩,?_,fun j hj=>Qc hj⟩;exact dI.mono (fun j hj=>Qc (by simp at hj;subst hj;simp[aW.blocks,Qb]))
theorem T9 (pb:Nat) (own:List Nat) (s:St) (x:Int) (w:World) (hx:bn x) (hn:s.all.length<34359738368) (h:cF w pb own s) :
  Calls Tryz.prog 93 #[.pointer (some ⟨pb,0,none⟩),.int .i64 x] w fun e w'=>e=.returned (.bool (decide (x ∉ s.all)))/\mJ w pb own w' (s.put x):=by
 go_enter Tryz.func93,Tryz.ntmps93
 go_wp2_with fail
 refine (BZ pb own s x _ hx h).mono ?_;rintro e w1 ⟨rfl,cG⟩;have h1:=h.aM cG (by simp);obtain⟨mb,tv,uv,up,Zh,-⟩:=id h1;obtain⟨ao,zg,rfl⟩:=cM Zh.eD;have c1:=Zh.c1;clear Zh
 go_wp2_with fail
 refine (Bm pb own s x _ hx hn h1).mono ?_;rintro e w2 ⟨rfl,ht⟩;have HT:=lh (ht.behind cG);clear ht c1;go_wp2;go_ret;refine⟨bB ?_,HT.out⟩;by_cases dM:x∈s.all
 ·rw[St.jo dM]
  have:=Qa.2 dM;simp[dM];omega
 rw[St.eH dM];simp only;rw[xr dM];simp[dM]
theorem IA {pb mb g cap:Nat} {tv:Value} {up:List Nat} {s:St} {w:World} {n:Nat} (h:aW w pb mb tv (.slice (some ⟨g,0,none⟩) n cap) up s) (hn:n=up.length) {i j:Nat} (hi:i<up.length) (hj:j<up.length) (ei:s.hd i=i) (ej:s.hd j=j) (ne:i≠j) :
  aW ((w.setCell ⟨g,max i j,none⟩ (.int .i64 ((min i j:Nat):Int))).setCell ⟨pb,3,none⟩ (.int .i64 ((s.count:Int) - 1))) pb mb tv (.slice (some ⟨g,0,none⟩) n cap) (up.set (max i j) (min i j)) ⟨s.all,relabel s.dp i j⟩:=by
 obtain⟨n1,n2,n3⟩:=h.XZ;subst hn;have hl:up.length=s.dp.length:=h.up.1;have ei':up.getD i 0=i:=by have:=(h.up.le i hi).2;rwa[show s.dp.getD i 0=i from ei] at this
 have ej':up.getD j 0=j:=by have:=(h.up.le j hj).2;rwa[show s.dp.getD j 0=j from ej] at this
 have hs:=h.E6.stored (max i j) (.int .i64 ((min i j:Nat):Int));have hg:=hs.2;have cG:(w.setCell ⟨g,max i j,none⟩ (.int .i64 ((min i j:Nat):Int))).heap[pb]?=_:=(Below.heap_setCell _ _ _ _ (by simpa using Ne.symm n1)).trans h.cells;have dI:ai [pb] (w.setCell ⟨g,max i j,none⟩ (.int .i64 ((min i j:Nat):Int))) ((w.setCell ⟨g,max i j,none⟩ (.int .i64 ((min i j:Nat):Int))).setCell ⟨pb,3,none⟩ (.int .i64 ((s.count:Int) - 1))):=(ai.refl _ _).setCell (by simp) _;have hct:=St.yP (all:=s.all) (by omega:i<s.dp.length) (by omega:j<s.dp.length) ei ej ne;refine⟨?_,?_,?_,?_,h.apart,h.up.join hi hj ei' ej' ne,by simp[relabel,h.len],h.nodup,h.small⟩
 ·rw[heap_setCell_same cG]
  have:((s.count:Int) - 1)=((St.count ⟨s.all,relabel s.dp i j⟩:Nat):Int):=by
   have e:s.count=St.count ⟨s.all,s.dp⟩:=rfl;omega
  rw[this];rfl
 ·exact (h.map.kept hg (by simpa using Ne.symm n2)).aM dI (by simpa using (h.map.ne h.cells).symm)
 ·refine bE (h.eD.kept hg (Or.inr n3)) dI (fun b hb e=>?_)
  simp at e;subst e;obtain⟨g',cap,cur,rfl,-,hg,-⟩:=h.eD.2.resolve_left (by rintro ⟨rfl,_⟩;simp[Qb] at hb);simp[Qb] at hb;rw[hb,h.cells] at hg;simp at hg
 refine bE ?_ dI (by simpa[Qb] using n1);have:=hs.1;rw[List.length_set,List.map_set];exact this
theorem O9 (pb:Nat) (own:List Nat) (s:St) (x y:Int) (w:World) (hx:bn x) (hy:bn y) (hn:s.all.length<17179869184) (h:cF w pb own s) :
  Calls Tryz.prog 94 #[.pointer (some ⟨pb,0,none⟩),.int .i64 x,.int .i64 y] w fun e w'=>e=.returned (.bool (s.CE x y))/\mJ w pb own w' (s.join x y):=by
 go_enter Tryz.func94,Tryz.ntmps94
 go_wp2_with fail
 refine (BZ pb own s x _ hx h).mono ?_;rintro e w1 ⟨rfl,cG⟩;have h1:=h.aM cG (by simp)
 go_wp2_with fail
 refine (BZ pb own s y _ hy h1).mono ?_;rintro e w2 ⟨rfl,bG⟩;have h2:=h1.aM bG (by simp);have EU:=s.Bl x;have zH:=(s.put x).Bl y
 go_wp2_with fail
 refine (Bm pb own s x _ hx (by omega) h2).mono ?_;rintro e w3 ⟨rfl,own3,h3,dB,hs3⟩
 go_wp2_with fail
 refine (Bm pb own3 (s.put x) y _ hy (by omega) h3).mono ?_;rintro e w4 ⟨rfl,own4,h4,iW,hs4⟩;have HI:=lh (St.mS (s:=s.put x) y (s.lk x));have hi:(s.put x).all.idxOf x<((s.put x).put y).all.length:=by rw[<-HI.out];exact Qa.2 (St.ku y (s.lk x))
 have hj:((s.put x).put y).all.idxOf y<((s.put x).put y).all.length:=Qa.2 (St.lk _ _);have hb:((s.put x).put y).all.length<=17179869186:=by omega
 have HJ:=lh (s.PN x y);have HK:=lh (s.join_eq x y);generalize (s.put x).all.idxOf x=i at *;generalize ((s.put x).put y).all.idxOf y=j at *;generalize (s.put x).put y=t at *;clear h h1 h2 h3 EU zH HI
 go_wp2_with fail
 refine (CX pb own4 t i _ hi h4).mono ?_;rintro e w5 ⟨rfl,own5,h5,gV,hs5⟩
 go_wp2_with fail
 refine (CX pb own5 t j _ hj h5).mono ?_;rintro e w6 ⟨rfl,own6,h6,hc6,hs6⟩;have HT:Hid (∀ w' t',mJ w6 pb own6 w' t'->mJ w pb own w' t'):=fun w' t' k=>(((((k.comp hc6 hs6).comp gV hs5).comp iW hs4).comp dB hs3).behind bG).behind cG;clear cG bG dB iW gV hc6 hs3 hs4 hs5 hs6 h4 h5;have jP:=h6.ok;have uT:=jP.le i (by rw[<-jP.len];exact hi);have hj':=jP.le j (by rw[<-jP.len];exact hj);have HP:=lh (jP.own i (by rw[<-jP.len];exact hi));have HQ:=lh (jP.own j (by rw[<-jP.len];exact hj));have hp:t.hd i<t.all.length:=by omega
 have hq:t.hd j<t.all.length:=by omega
 clear hi hj uT hj' jP;generalize t.hd i=p at *;generalize t.hd j=q at *;by_cases e:p=q
 ·subst e
  go_wp2;go_ret;exact⟨bB (by rw[HJ.out];simp),by rw[HK.out,sg];exact HT.out _ _ (mJ.refl h6)⟩
 have e2:(((p:Nat):Int)==((q:Nat):Int))=false:=by rw[beq_eq_false_iff_ne];omega
 obtain⟨mb,tv,uv,up,Fu,rfl⟩:=h6;have DW:up.length=t.all.length:=by rw[Fu.up.1,Fu.len]
 obtain⟨g,cap,rfl⟩:=cN Fu.E6 (by omega);have c2:=Fu.c2;have c3:=Fu.c3;have f3:=Fu.free 3;have bh:=Fu.XZ.1;have ma:=t.count_le;have yV:=Fu.len;have oY:t.count<=34359738368:=by omega
 have HC:=lh (IA Fu rfl (i:=p) (j:=q) (by omega) (by omega) HP.out HQ.out e);have HH:=lh Fu;have hpu:p<up.length:=by omega
 have hqu:q<up.length:=by omega
 have n1:g∈aW.blocks pb mb tv (.slice (some ⟨g,0,none⟩) up.length cap):=by simp[aW.blocks,Qb]
 have n2:pb∈aW.blocks pb mb tv (.slice (some ⟨g,0,none⟩) up.length cap):=by simp[aW.blocks]
 clear ma yV;rcases Nat.lt_or_gt_of_ne e with aU | aU
 ·have cq:=Fu.wD rfl q (by omega)
  have fq:=Fu.G5 rfl q;have cA:=HC.out;rw[Nat.max_eq_right (by omega),Nat.min_eq_left (by omega)] at cA;have dD:=lh cA;clear Fu DW cA HC;go_wp2;go_ret;exact⟨bB (by rw[HJ.out];simpa using e),by rw[HK.out];exact HT.out _ _ ⟨_,⟨mb,tv,_,_,dD.out,rfl⟩,((ai.refl _ _).setCell (Qc n1) _).setCell (Qc n2) _,fun _ hj=>Qc hj⟩⟩
 have cq:=Fu.wD rfl p (by omega);have fq:=Fu.G5 rfl p;have cA:=HC.out;rw[Nat.max_eq_left (by omega),Nat.min_eq_right (by omega)] at cA;have dD:=lh cA;clear Fu DW cA HC;go_wp2;go_ret;exact⟨bB (by rw[HJ.out];simpa using e),by rw[HK.out];exact HT.out _ _ ⟨_,⟨mb,tv,_,_,dD.out,rfl⟩,((ai.refl _ _).setCell (Qc n1) _).setCell (Qc n2) _,fun _ hj=>Qc hj⟩⟩
end Go.Proofs.YtbkjljffnkdcjaaGreat
