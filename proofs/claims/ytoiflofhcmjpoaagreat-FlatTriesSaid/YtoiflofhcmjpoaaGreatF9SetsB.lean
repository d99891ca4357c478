/- package sets: contracts of Add, Join, Same, Len, Count, Head. Conditions: an object that stands in memory, with fewer than 2^34 fJ; any ints. -/
import Derived.Test.YtoiflofhcmjpoaaGreatF9SetsA
import Derived.Deep.RegionHeld3
open Go.Value renaming ownBlock→Qa
open List renaming idxOf_lt_length_iff→Qb
open Or renaming inl→Qc
namespace Go.Proofs.YtoiflofhcmjpoaaGreat
open Go.RowKit Go.Maps
variable {w w':World} {pb mb g cap n i j:Nat} {s:St} {uv tv:Value}
theorem cI.aL {own nh:List Nat} (h:cI w pb own s) (hc:ai nh w w') (hn:∀ b∈own,b ∉ nh):cI w' pb own s:=by
 obtain⟨mb,tv,uv,up,h,rfl⟩:=h;exact⟨mb,tv,uv,up,h.aL hc hn,rfl⟩
theorem cI.ok {own:List Nat} (h:cI w pb own s):s.Ok:=by
 obtain⟨mb,tv,uv,up,h,rfl⟩:=h;have hl:up.length=s.dY.length:=h.up.1;exact⟨h.len,h.nodup,λi hi=>(h.up.le i (by omega)).1,λi hi=>h.up.own (by omega)⟩
theorem aZ.afS {up:List Nat} (h:aZ w pb mb (.slice (some ⟨g,0,none⟩) n cap) uv up s) (hn:n=s.all.length) (i:Nat) (hi:i<s.all.length):w.cell? ⟨g,i,none⟩=some (.int .i64 (s.all.getD i 0)):=by
 subst hn;rw[h.fJ.cellAt i (by omega)]
 grind
theorem V2 (pb mb:Nat) (tv uv:Value) (up:List Nat) (s:St) (i:Nat) (w:World) (hi:i<s.all.length) (h:aZ w pb mb tv uv up s) :
  Calls Tryz.prog 144 #[.pointer (some ⟨pb,0,none⟩),.int .i64 i] w λe w'=>e=.returned (.int .i64 (s.hd i))/\∃ kv,aZ w' pb mb tv uv kv s/\ai uv.ownBlock.toList w w':=by
 have hl:up.length=s.all.length:=by rw[h.up.1,h.len]
 obtain⟨g,cap,rfl⟩:=dj h.Hn (by omega);exact (EH pb mb g cap tv up s i w (by omega) h).mono λe w' ⟨he,⟨kv,hu,eJ,_⟩,ij⟩=>⟨he,kv,eJ,ij⟩
theorem Gx (pb:Nat) (own:List Nat) (s:St) (i:Nat) (w:World) (hi:i<s.all.length) (h:cI w pb own s) :
  Calls Tryz.prog 144 #[.pointer (some ⟨pb,0,none⟩),.int .i64 i] w λe w'=>e=.returned (.int .i64 (s.hd i))/\nu w pb own w' s:=by
 obtain⟨mb,tv,uv,up,h,rfl⟩:=h;have hl:up.length=s.all.length:=by rw[h.up.1,h.len]
 obtain⟨g,cap,rfl⟩:=dj h.Hn (by omega);refine (EH pb mb g cap tv up s i w (by omega) h).mono λe w' ⟨he,⟨kv,hu,eJ,_⟩,ij⟩=>⟨he,aZ.blocks pb mb tv (.slice (some ⟨g,0,none⟩) up.length cap),⟨mb,tv,_,kv,eJ,rfl⟩,?_,λj hj=>Qc hj⟩;exact ij.mono (λj hj=>Qc (by simp at hj;subst hj;simp[aZ.blocks,Qa]))
theorem Vo (pb:Nat) (own:List Nat) (s:St) (x:Int) (w:World) (hx:bF x) (hn:s.all.length<34359738368) (h:cI w pb own s) :
  Calls Tryz.prog 93 #[.pointer (some ⟨pb,0,none⟩),.int .i64 x] w λe w'=>e=.returned (.bool (decide (x ∉ s.all)))/\nu w pb own w' (s.put x):=by
 go_enter Tryz.func93,Tryz.ntmps93;go_wp2_with fail;refine (C8 pb own s x _ hx h).mono ?_;rintro e w1 ⟨rfl,dD⟩;have h1:=h.aL dD (by simp);obtain⟨mb,tv,uv,up,h1',-⟩:=id h1;obtain⟨ao,AX,rfl⟩:=bR h1'.fJ;have c1:=h1'.c1;clear h1';go_wp2_with fail;refine (D0 pb own s x _ hx hn h1).mono ?_;rintro e w2 ⟨rfl,ht⟩;have HT:=lh (ht.behind dD);clear ht c1;go_wp2;go_ret;refine⟨aM ?_,HT.out⟩
 all_goals grind [St.kn,St.e8,yy]
theorem I4 {up:List Nat} (h:aZ w pb mb tv (.slice (some ⟨g,0,none⟩) n cap) up s) (hn:n=up.length) (hi:i<up.length) (hj:j<up.length) (ei:s.hd i=i) (ej:s.hd j=j) (ne:i≠j) :
  aZ ((w.setCell ⟨g,max i j,none⟩ (.int .i64 ((min i j:Nat):Int))).setCell ⟨pb,3,none⟩ (.int .i64 ((s.count:Int) - 1))) pb mb tv (.slice (some ⟨g,0,none⟩) n cap) (up.set (max i j) (min i j)) ⟨s.all,relabel s.dY i j⟩:=by
 obtain⟨n1,n2,n3⟩:=h.ab8;subst hn;have hl:up.length=s.dY.length:=h.up.1;have ei':up.getD i 0=i:=by have:=(h.up.le i hi).2;rwa[show s.dY.getD i 0=i from ei] at this
 have ej':up.getD j 0=j:=by have:=(h.up.le j hj).2;rwa[show s.dY.getD j 0=j from ej] at this
 have hs:=h.Hn.stored (max i j) (.int .i64 ((min i j:Nat):Int));have hg:=hs.2;have dD:(w.setCell ⟨g,max i j,none⟩ (.int .i64 ((min i j:Nat):Int))).heap[pb]?=_:=(Below.heap_setCell _ _ _ _ (by grind)).trans h.cells;have ij:ai [pb] (w.setCell ⟨g,max i j,none⟩ (.int .i64 ((min i j:Nat):Int))) ((w.setCell ⟨g,max i j,none⟩ (.int .i64 ((min i j:Nat):Int))).setCell ⟨pb,3,none⟩ (.int .i64 ((s.count:Int) - 1))):=(ai.refl _ _).setCell (by simp) _;have hct:=St.Bk (all:=s.all) (by omega:i<s.dY.length) (by omega:j<s.dY.length) ei ej ne;refine⟨?_,?_,?_,?_,h.apart,h.up.join hi hj ei' ej' ne,by simp[relabel,h.len],h.nodup,h.small⟩
 ·rw[heap_setCell_same dD]
  have:((s.count:Int) - 1)=((St.count ⟨s.all,relabel s.dY i j⟩:Nat):Int):=by
   have e:s.count=St.count ⟨s.all,s.dY⟩:=rfl;omega
  rw[this];rfl
 ·exact (h.map.kept hg (by grind)).aL ij (by simpa using (h.map.ne h.cells).symm)
 ·refine bG (h.fJ.kept hg (Or.inr n3)) ij (λb hb e=>?_)
  simp at e;subst e;obtain⟨g',cap,cur,rfl,-,hg,-⟩:=h.fJ.2.resolve_left (by rintro ⟨rfl,_⟩;simp[Qa] at hb);simp[Qa] at hb;rw[hb,h.cells] at hg;simp at hg
 refine bG ?_ ij (by simpa[Qa] using n1);have:=hs.1;rw[List.length_set,List.map_set];exact this
theorem Sr (pb:Nat) (own:List Nat) (s:St) (x y:Int) (w:World) (hx:bF x) (hy:bF y) (hn:s.all.length<17179869184) (h:cI w pb own s) :
  Calls Tryz.prog 94 #[.pointer (some ⟨pb,0,none⟩),.int .i64 x,.int .i64 y] w λe w'=>e=.returned (.bool (s.FV x y))/\nu w pb own w' (s.join x y):=by
 go_enter Tryz.func94,Tryz.ntmps94;go_wp2_with fail;refine (C8 pb own s x _ hx h).mono ?_;rintro e w1 ⟨rfl,dD⟩;have h1:=h.aL dD (by simp);go_wp2_with fail;refine (C8 pb own s y _ hy h1).mono ?_;rintro e w2 ⟨rfl,bI⟩;have h2:=h1.aL bI (by simp);have yJ:=s.DX x;have Cj:=(s.put x).DX y;go_wp2_with fail;refine (D0 pb own s x _ hx (by omega) h2).mono ?_;rintro e w3 ⟨rfl,own3,h3,dK,hs3⟩;go_wp2_with fail;refine (D0 pb own3 (s.put x) y _ hy (by omega) h3).mono ?_;rintro e w4 ⟨rfl,own4,h4,gX,hs4⟩;have HI:=lh (St.nU (s:=s.put x) y (s.nD x));have hi:(s.put x).all.idxOf x<((s.put x).put y).all.length:=by rw[<-HI.out];exact Qb.2 (St.lF y (s.nD x))
 have hj:((s.put x).put y).all.idxOf y<((s.put x).put y).all.length:=Qb.2 (St.nD _ _);have hb:((s.put x).put y).all.length<=17179869186:=by omega
 have HJ:=lh (s.UE x y);have HK:=lh (s.join_eq x y);generalize (s.put x).all.idxOf x=i at *;generalize ((s.put x).put y).all.idxOf y=j at *;generalize (s.put x).put y=t at *;clear h h1 h2 h3 yJ Cj HI;go_wp2_with fail;refine (Gx pb own4 t i _ hi h4).mono ?_;rintro e w5 ⟨rfl,own5,h5,dV,hs5⟩;go_wp2_with fail;refine (Gx pb own5 t j _ hj h5).mono ?_;rintro e w6 ⟨rfl,own6,h6,hc6,hs6⟩;have HT:Hid (∀ w' t',nu w6 pb own6 w' t'->nu w pb own w' t'):=λw' t' k=>(((((k.comp hc6 hs6).comp dV hs5).comp gX hs4).comp dK hs3).behind bI).behind dD;clear dD bI dK gX dV hc6 hs3 hs4 hs5 hs6 h4 h5;have kL:=h6.ok;have H8:=kL.le i (by rw[<-kL.len];exact hi);have hj':=kL.le j (by rw[<-kL.len];exact hj);have HP:=lh (kL.own i (by rw[<-kL.len];exact hi));have HQ:=lh (kL.own j (by rw[<-kL.len];exact hj));have hp:t.hd i<t.all.length:=by omega
 have hq:t.hd j<t.all.length:=by omega
 clear hi hj H8 hj' kL;generalize t.hd i=p at *;generalize t.hd j=q at *;by_cases e:p=q
 ·subst e
  go_wp2;go_ret;exact⟨aM (by rw[HJ.out];simp),by rw[HK.out,tj];exact HT.out _ _ (nu.refl h6)⟩
 have e2:(((p:Nat):Int)==((q:Nat):Int))=false:=by rw[beq_eq_false_iff_ne];omega
 obtain⟨mb,tv,uv,up,Ic,rfl⟩:=h6;have PC:up.length=t.all.length:=by rw[Ic.up.1,Ic.len]
 obtain⟨g,cap,rfl⟩:=dj Ic.Hn (by omega);have c2:=Ic.c2;have c3:=Ic.c3;have f3:=Ic.free 3;have bn:=Ic.ab8.1;have lu:=t.count_le;have Aa:=Ic.len;have qw:t.count<=34359738368:=by omega
 have HC:=lh (I4 Ic rfl (i:=p) (j:=q) (by omega) (by omega) HP.out HQ.out e);have HH:=lh Ic;have hpu:p<up.length:=by omega
 have hqu:q<up.length:=by omega
 have n1:g∈aZ.blocks pb mb tv (.slice (some ⟨g,0,none⟩) up.length cap):=by simp[aZ.blocks,Qa]
 have n2:pb∈aZ.blocks pb mb tv (.slice (some ⟨g,0,none⟩) up.length cap):=by simp[aZ.blocks]
 clear lu Aa;rcases Nat.lt_or_gt_of_ne e with aW | aW
 ·have cq:=Ic.yu rfl q (by omega)
  have fq:=Ic.I3 rfl q;have bU:=HC.out;rw[Nat.max_eq_right (by omega),Nat.min_eq_left (by omega)] at bU;have b8:=lh bU;clear Ic PC bU HC;go_wp2;go_ret;exact⟨aM (by rw[HJ.out];simpa using e),by rw[HK.out];exact HT.out _ _ ⟨_,⟨mb,tv,_,_,b8.out,rfl⟩,((ai.refl _ _).setCell (Qc n1) _).setCell (Qc n2) _,λ_ hj=>Qc hj⟩⟩
 have cq:=Ic.yu rfl p (by omega);have fq:=Ic.I3 rfl p;have bU:=HC.out;rw[Nat.max_eq_left (by omega),Nat.min_eq_right (by omega)] at bU;have b8:=lh bU;clear Ic PC bU HC;go_wp2;go_ret;exact⟨aM (by rw[HJ.out];simpa using e),by rw[HK.out];exact HT.out _ _ ⟨_,⟨mb,tv,_,_,b8.out,rfl⟩,((ai.refl _ _).setCell (Qc n1) _).setCell (Qc n2) _,λ_ hj=>Qc hj⟩⟩
