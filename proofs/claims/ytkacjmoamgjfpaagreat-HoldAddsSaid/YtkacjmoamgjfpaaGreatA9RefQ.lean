/- ref04: the contract of RightPart. Conditions: a graph, a part that lie in memory and read so, of a bounded size. -/
import Derived.Test.YtkacjmoamgjfpaaGreatA9RefP
import Derived.Test.YtkacjmoamgjfpaaGreatA9RefG
namespace Go.Proofs.YtkacjmoamgjfpaaGreat
open Go.RowKit Go.Maps
set_option maxRecDepth 100000 in
set_option maxHeartbeats 4000000 in
theorem aCb (vg vp:Value) (g:aA.Gr) (p:aA.Pt) (w:World) (hl:p.v.length<4294967296) (hpl:p.e.length<4294967296) (hgl:g.e.length<4294967296) (hg:dW w vg g) (hp:gC w vp p) :
  Calls Tryz.prog 19 #[vg,vp] w fun e w'=>e=.returned (.int .i64 (p.err g))∧Chg [] w w':=by
 have HG:=lh hg;obtain⟨eo,cap,rfl,hn,hm,hsm,hcell⟩:=hg;obtain⟨v1,v2,rfl,hv,he⟩:=hp;have HV:=lh hv;have HE:=lh he;obtain⟨ao,ac,rfl,-,-,-⟩:=hv;obtain⟨bo,bc,rfl,hbs,hbm,hbcell⟩:=he;have HCE:=lh hcell;have HBC:=lh hbcell;have HBS:=lh hbs;clear hsm hcell hbcell hbs
 go_enter Tryz.func19,Tryz.ntmps19
 obtain⟨hb1,hb2,hc1⟩:=cK w #[.int .i64 g.n,.slice eo g.e.length cap] #[.slice ao p.v.length ac,.slice bo p.e.length bc] 24 29;have x0:=(cell_of_row _ _ 0 _ _ _ hb1).trans (show _=some (Value.int .i64 g.n) from rfl);have x1:=(cell_of_row _ _ 1 _ _ _ hb1).trans (show _=some (Value.slice eo g.e.length cap) from rfl);have y0:=(cell_of_row _ _ 0 _ _ _ hb2).trans (show _=some (Value.slice ao p.v.length ac) from rfl);have y1:=(cell_of_row _ _ 1 _ _ _ hb2).trans (show _=some (Value.slice bo p.e.length bc) from rfl);have X0:=lh x0;have X1:=lh x1;have Y0:=lh y0;have Y1:=lh y1;have HC1:=lh hc1;clear hb1 hb2 hc1 x0 x1 y0 y1
 go_wp2_with fail
 refine (aAL _ g _ (by omega) (HG.out.fresh HC1.out)).mono ?_;rintro e w2 ⟨rfl,hc2⟩;have HC2:=lh hc2;generalize ((w.alloc (.cells #[.int .i64 g.n,.slice eo g.e.length cap] 24)).alloc (.cells #[.slice ao p.v.length ac,.slice bo p.e.length bc] 29))=w1 at *;generalize w.heap.size+1=pb at *;generalize w.heap.size=gb at *;clear hc2;by_cases h1:g.err=0
 ·rw[h1]
  have HER:=lh (show p.err g=if !(aA.fI p.v g.n&&aA.fI p.e g.e.length) then 4 else if (List.range p.e.length).all (p.dC g) then 0 else 4 by unfold aA.Pt.err;rw[if_neg (by simp[h1])]);have HGE:=lh h1;clear h1;have x0:=HC2.out.c X0.out;have x1:=HC2.out.c X1.out;have y0:=HC2.out.c Y0.out;have y1:=HC2.out.c Y1.out
  go_wp2_with fail
  refine (yV _ p.v g.n _ ((HV.out.fresh HC1.out).fresh HC2.out) (by omega)).mono ?_;rintro e w3 ⟨rfl,hc3⟩;have HC3:=lh (HC2.out.t hc3);clear x0 x1 y0 y1 hc3;cases hr:aA.fI p.v g.n with
  | false =>
   have HE4:=lh (show p.err g=4 by rw[HER.out,hr];rfl);have y1:=HC3.out.c Y1.out;have x1:=HC3.out.c X1.out;clear hr;go_wp2;go_ret;exact⟨aS HE4.out.symm,HC1.out.t HC3.out⟩
  | true =>
   have HRV:=lh hr;have y1:=HC3.out.c Y1.out;have x1:=HC3.out.c X1.out;clear hr
   go_wp2_with fail
   refine (yV _ p.e g.e.length _ ((HE.out.fresh HC1.out).fresh HC3.out) (by omega)).mono ?_;rintro e w4 ⟨rfl,hc4⟩;have HC4:=lh (HC3.out.t hc4);clear x1 y1 hc4;cases hr:aA.fI p.e g.e.length with
   | false =>
    have HE4:=lh (show p.err g=4 by rw[HER.out,HRV.out,hr];rfl);clear hr;go_wp2;go_ret;exact⟨aS HE4.out.symm,HC1.out.t HC4.out⟩
   | true =>
    have HER2:=lh (show p.err g=if (List.range p.e.length).all (p.dC g) then 0 else 4 by rw[HER.out,HRV.out,hr];rfl);have HRE:=lh hr;have HSO:=lh (aA.cI HRV.out);have y1:=HC4.out.c Y1.out;clear hr HER;go_wp2;clear y1
    go_loopw [6] (fun c wr=>∃ k:Nat,k≤p.e.length∧c=.int .i64 k∧Chg [] w1 wr∧Hid ((List.range k).all (p.dC g)=true)) (fun c _=>p.e.length - (intOf c).toNat)
    case atStart=>exact⟨0,Nat.zero_le _,rfl,HC4.out,rfl⟩
    case round =>
     obtain⟨k,hk,rfl,hc,hall⟩:=hrel;have HC:=lh hc;by_cases hlt:k<p.e.length
     ·obtain⟨bb,boff,rfl,hbc⟩:=HBC.out (by intro e;rw[e] at hlt;simp at hlt)
      have ce:=hc.c (HC1.out.c (hbc k hlt));have hre:=aA.eB HRE.out hlt;have HF:=lh (fun h=>aA.cW (p:=p.dC g) hlt h);have HS:=lh (aA.dB (p.dC g) k);obtain⟨ei,hei⟩:∃ ei:Nat,p.e.getD k 0=(ei:Int):=⟨(p.e.getD k 0).toNat,by omega⟩;rw[hei] at ce hre;have hei2:ei<g.e.length:=by omega
      obtain⟨eb,eoff,rfl,hc0,hc1⟩:=HCE.out ei hei2;obtain⟨ea,hea⟩:∃ ea,(g.ends ei).1=ea:=⟨_,rfl⟩;obtain⟨ez,hez⟩:∃ ez,(g.ends ei).2=ez:=⟨_,rfl⟩;have HR:=lh (show p.dC g k=(decide (ea∈p.v)&&decide (ez∈p.v)) by simp only[aA.Pt.dC,hei,Int.toNat_natCast,hea,hez]);rw[hea] at hc0;rw[hez] at hc1;have c0:=HC1.out.c hc0;have c1:=HC1.out.c hc1;have C0:=lh c0;have C1:=lh c1;have HBE:=lh (show ∀ wx,Chg [] w1 wx→wx.cell? ⟨bb,boff+k,none⟩=some (.int .i64 (ei:Int)) from fun wx hx=>by rw[←hei];exact hx.c (HC1.out.c (hbc k hlt)));have y1:=hc.c Y1.out;clear hbc hc hre hei hc0 hc1 c0 c1 hea hez;go_wp2;clear ce y1;have HSA:=lh (fun wx (hx:Chg [] w1 wx)=>(show (fun w':World=>w'.cell? ⟨pb,0,none⟩=some (.slice ao p.v.length ac)∧w'.cell? ⟨gb,1,none⟩=some (.slice (some ⟨eb,eoff,none⟩) g.e.length cap)∧w'.cell? ⟨eb,eoff+ei*2,none⟩=some (.int .i64 ea)∧w'.cell? ⟨eb,eoff+ei*2+1,none⟩=some (.int .i64 ez)∧w'.cell? ⟨pb,1,none⟩=some (.slice (some ⟨bb,boff,none⟩) p.e.length bc)∧w'.cell? ⟨bb,boff+k,none⟩=some (.int .i64 (ei:Int))) wx from⟨hx.c Y0.out,hx.c X1.out,hx.c C0.out,hx.c C1.out,hx.c Y1.out,HBE.out wx hx⟩));have hS0:=HSA.out wr.drew HC.out.drew;refine aF (fun w':World=>w'.cell? ⟨pb,0,none⟩=some (.slice ao p.v.length ac)∧w'.cell? ⟨gb,1,none⟩=some (.slice (some ⟨eb,eoff,none⟩) g.e.length cap)∧w'.cell? ⟨eb,eoff+ei*2,none⟩=some (.int .i64 ea)∧w'.cell? ⟨eb,eoff+ei*2+1,none⟩=some (.int .i64 ez)∧w'.cell? ⟨pb,1,none⟩=some (.slice (some ⟨bb,boff,none⟩) p.e.length bc)∧w'.cell? ⟨bb,boff+k,none⟩=some (.int .i64 (ei:Int))) [0,1,2,3,4,5,6,7,8,9,10,11,13,14,15,16,17,18,19,20,21,22,23,24,25,26,28,29] (Way.line [0,1,2,3,4,5,6,7,8,9,10,11,12,13,14,15,16,17,18,19,20,21,22,23,24,25,26,27,28,29] .done) (by kernel_rfl) (by kernel_rfl) ?_;simp only[Way.line]
      repeat
       first
        | (refine aE rfl (by rfl) (by rfl) (fun _ _ _ h=>h) hS0 ?_;simp only[Act.put,Z1,Z2,Z3,Z4,Z5,Z6])
        | (refine aC (v:=?_) rfl (by rfl) (by rfl) (fun _ _ _ h=>h) hS0 (fun w' hS'=>?_) ?_;rotate_left;(focus ((try dsimp only at hS');go_simp;try with_reducible rfl));simp only[Act.put,Z1,Z2,Z3,Z4,Z5,Z6])
        | (refine aD rfl (by rfl) (by rfl) hS0 ?_;simp only[Act.put,Z1,Z2,Z3,Z4,Z5,Z6])
      refine aI rfl (by rfl) (by rfl) (fun K hK=>?_);go_simp;refine (gD _ p.v ea _ ((HV.out.fresh HC1.out).fresh HC.out.drew)).mono ?_;rintro e w5 ⟨rfl,hc5⟩;have HC5:=lh (HC.out.drew.t hc5);have hS1:=HSA.out w5 HC5.out;refine hK.out _ _ (fun _=>hS1) ?_;clear hK K hc5 hS0;obtain⟨q1,hq1⟩:∃ q,decide (ea∈p.v)=q:=⟨_,rfl⟩;obtain⟨q2,hq2⟩:∃ q,decide (ez∈p.v)=q:=⟨_,rfl⟩;have HQ2:=lh hq2;rw[hq1,hq2] at HR;rw[hq1];clear hq1 hq2;cases q1 with
      | false =>
       have HE4:=lh (show p.err g=4 by rw[HER2.out,if_neg (by rw[HF.out (by rw[HR.out];rfl)];decide)])
       try simp only[Act.put,Z1,Z2,Z3,Z4,Z5,Z6]
       repeat
        first
         | (refine aE rfl (by rfl) (by rfl) (fun _ _ _ h=>h) hS1 ?_;simp only[Act.put,Z1,Z2,Z3,Z4,Z5,Z6])
         | (refine aC (v:=?_) rfl (by rfl) (by rfl) (fun _ _ _ h=>h) hS1 (fun w' hS'=>?_) ?_;rotate_left;(focus ((try dsimp only at hS');go_simp;try with_reducible rfl));simp only[Act.put,Z1,Z2,Z3,Z4,Z5,Z6])
         | (refine aD rfl (by rfl) (by rfl) hS1 ?_;simp only[Act.put,Z1,Z2,Z3,Z4,Z5,Z6])
       refine aG ?_;go_wp2;go_ret;exact⟨aS HE4.out.symm,HC1.out.t HC5.out⟩
      | true =>
       try simp only[Act.put,Z1,Z2,Z3,Z4,Z5,Z6]
       repeat
        first
         | (refine aE rfl (by rfl) (by rfl) (fun _ _ _ h=>h) hS1 ?_;simp only[Act.put,Z1,Z2,Z3,Z4,Z5,Z6])
         | (refine aC (v:=?_) rfl (by rfl) (by rfl) (fun _ _ _ h=>h) hS1 (fun w' hS'=>?_) ?_;rotate_left;(focus ((try dsimp only at hS');go_simp;try with_reducible rfl));simp only[Act.put,Z1,Z2,Z3,Z4,Z5,Z6])
         | (refine aD rfl (by rfl) (by rfl) hS1 ?_;simp only[Act.put,Z1,Z2,Z3,Z4,Z5,Z6])
       refine aI rfl (by rfl) (by rfl) (fun K hK=>?_);go_simp;refine (gD _ p.v ez _ ((HV.out.fresh HC1.out).fresh HC5.out)).mono ?_;rintro e w6 ⟨rfl,hc6⟩;have HC6:=lh (HC5.out.t hc6);have hS2:=HSA.out w6 HC6.out;refine hK.out _ _ (fun _=>hS2) ?_;clear hK K hc6 hS1;rw[HQ2.out];cases q2 with
       | false =>
        have HE4:=lh (show p.err g=4 by rw[HER2.out,if_neg (by rw[HF.out (by rw[HR.out];rfl)];decide)])
        try simp only[Act.put,Z1,Z2,Z3,Z4,Z5,Z6]
        repeat
         first
          | (refine aE rfl (by rfl) (by rfl) (fun _ _ _ h=>h) hS2 ?_;simp only[Act.put,Z1,Z2,Z3,Z4,Z5,Z6])
          | (refine aC (v:=?_) rfl (by rfl) (by rfl) (fun _ _ _ h=>h) hS2 (fun w' hS'=>?_) ?_;rotate_left;(focus ((try dsimp only at hS');go_simp;try with_reducible rfl));simp only[Act.put,Z1,Z2,Z3,Z4,Z5,Z6])
          | (refine aD rfl (by rfl) (by rfl) hS2 ?_;simp only[Act.put,Z1,Z2,Z3,Z4,Z5,Z6])
        refine aG ?_;go_wp2;go_ret;exact⟨aS HE4.out.symm,HC1.out.t HC6.out⟩
       | true =>
        try simp only[Act.put,Z1,Z2,Z3,Z4,Z5,Z6]
        repeat
         first
          | (refine aE rfl (by rfl) (by rfl) (fun _ _ _ h=>h) hS2 ?_;simp only[Act.put,Z1,Z2,Z3,Z4,Z5,Z6])
          | (refine aC (v:=?_) rfl (by rfl) (by rfl) (fun _ _ _ h=>h) hS2 (fun w' hS'=>?_) ?_;rotate_left;(focus ((try dsimp only at hS');go_simp;try with_reducible rfl));simp only[Act.put,Z1,Z2,Z3,Z4,Z5,Z6])
          | (refine aD rfl (by rfl) (by rfl) hS2 ?_;simp only[Act.put,Z1,Z2,Z3,Z4,Z5,Z6])
        refine aG ?_;clear hS2;go_wp2
        go_roundw
        case rel=>exact⟨k+1,by omega,by go_num,HC6.out,lh (by rw[HS.out,HR.out,hall.out];rfl)⟩
        case measure=>simp[intOf];omega
     have e:k=p.e.length:=by omega
     subst e;have y1:=HC.out.c Y1.out;have HE0:=lh (HER2.out.trans (if_pos hall.out));go_wp2;go_ret;exact⟨aS HE0.out.symm,HC1.out.t HC.out⟩
 have HEQ:=lh (show p.err g=g.err by unfold aA.Pt.err;rw[if_pos h1]);have hne:(g.err==0)=false:=by rw[beq_eq_false_iff_ne];exact h1
 clear h1;go_wp2;go_ret;exact⟨aS HEQ.out.symm,HC1.out.t HC2.out⟩
namespace aA
def mU (l:List Int) (x:Int):Int:=if x∈l then (l.idxOf x:Nat) else -1
theorem vR {l:List Int} {x:Int} {k:Nat} (hk:k<l.length) (h:l.getD k 0=x) (hn:x ∉ l.take k):mU l x=k:=by
 have hm:x∈l:=by rw[←h];simp[List.getD,hk]
 have hi:=List.idxOf_lt_length_iff.2 hm;unfold mU;rw[if_pos hm];have h1:¬ l.idxOf x<k:=fun q=>hn (by
  have e:(l.take k)[l.idxOf x]?=some x:=by rw[List.getElem?_take,if_pos q,List.getElem?_eq_getElem hi,List.getElem_idxOf]
  exact List.mem_of_getElem? e)
 have h2:¬ k<l.idxOf x:=fun q=>by
  have:=List.not_of_lt_findIdx (xs:=l) (p:=fun y=>y==x) q;simp[List.getD,hk] at h;simp[h] at this
 omega
theorem aBn {l:List Int} {x:Int} (h:x ∉ l):mU l x = -1:=if_neg h
end aA
namespace aA
theorem aEe {l:List Int} {k:Nat} (hk:k<l.length):mU l (l.getD k 0)<k↔l.getD k 0∈l.take k:=by
 constructor
 ·intro h
  by_cases q:l.getD k 0∈l.take k
  ·exact q
  rw[vR hk rfl q] at h;omega
 intro h;obtain⟨i,hi,e⟩:=List.getElem_of_mem h;rw[List.length_take] at hi;rw[List.getElem_take] at e;have hm:l.getD k 0∈l:=by simp[List.getD,hk]
 unfold mU;rw[if_pos hm];have h2:¬ i<l.idxOf (l.getD k 0):=fun q=>by
  have:=List.not_of_lt_findIdx (xs:=l) (p:=fun y=>y==l.getD k 0) q;simp at this;exact this (by simpa[List.getD,hk] using e)
 omega
theorem aDm {l:List Int} {k:Nat} (hk:k<l.length):(l.take (k+1)).Nodup↔(l.take k).Nodup∧l.getD k 0 ∉ l.take k:=by
 have e:l.take (k+1)=l.take k++[l.getD k 0]:=by rw[List.take_succ_eq_append_getElem hk];simp[List.getD,hk]
 rw[e,List.nodup_append];constructor
 ·rintro ⟨h1,-,h3⟩
  exact⟨h1,fun h=>h3 _ h _ (by simp) rfl⟩
 rintro ⟨h1,h2⟩;exact⟨h1,by simp,fun x hx y hy e=>h2 (by rw[←List.mem_singleton.1 hy,←e];exact hx)⟩
end aA
theorem xN (v:Value) (l:List Int) (x:Int) (w:World) (h:aL w v l) :
  Calls Tryz.prog 198 #[v,.int .i64 x] w fun e w'=>e=.returned (.int .i64 (aA.mU l x))∧Chg [] w w':=by
 obtain⟨ao,cap,rfl,-,hm,hcell⟩:=h;have HCE:=lh hcell;clear hcell
 go_enter Tryz.func198,Tryz.ntmps198
 go_wp2
 go_loopw [5] (fun c wr=>∃ k:Nat,k≤l.length∧c=.int .i64 k∧Chg [] w wr∧Hid (x ∉ l.take k)) (fun c _=>l.length - (intOf c).toNat)
 case atStart=>exact⟨0,Nat.zero_le _,rfl,Chg.refl _ _,lh (by simp)⟩
 case round =>
  obtain⟨k,hk,rfl,hc,hno⟩:=hrel;have HC:=lh hc;by_cases hlt:k<l.length
  ·obtain⟨b,off,rfl,hfc⟩:=HCE.out (by intro e;rw[e] at hlt;simp at hlt)
   have c0:=hc.c (hfc k hlt);have HH:=lh (fun h=>aA.vR (x:=x) hlt h hno.out);have HT:=lh (show l.take (k+1)=l.take k++[l.getD k 0] by rw[List.take_succ_eq_append_getElem hlt];simp[List.getD,hlt]);obtain⟨z,hz⟩:∃ z,l.getD k 0=z:=⟨_,rfl⟩;rw[hz] at c0 HH HT;clear hfc hc hz;by_cases e:z=x
   ·have HE:=lh (HH.out e)
    have b1:(z==x)=true:=by rw[beq_iff_eq];exact e
    clear e;go_wp2;go_ret;exact⟨aS HE.out.symm,HC.out⟩
   have HN:=lh (show x ∉ l.take (k+1) by rw[HT.out,List.mem_append];rintro (q | q);exact hno.out q;exact e (List.mem_singleton.1 q).symm);have b1:(z==x)=false:=by rw[beq_eq_false_iff_ne];exact e
   clear e;go_wp2
   go_roundw
   case rel=>exact⟨k+1,by omega,by go_num,HC.out,HN⟩
   case measure=>simp[intOf];omega
  have e:k=l.length:=by omega
  subst e;have HE:=lh (aA.aBn (l:=l) (x:=x) (by have:=hno.out;rwa[List.take_length] at this));clear hc;go_wp2;go_ret;exact⟨aS HE.out.symm,HC.out⟩
theorem aB0 (v:Value) (l:List Int) (w:World) (h:aL w v l) :
  Calls Tryz.prog 135 #[v] w fun e w'=>e=.returned (.bool (decide l.Nodup))∧Chg [] w w':=by
 have HI:=lh h;obtain⟨ao,cap,rfl,-,hm,hcell⟩:=h;have HCE:=lh hcell;clear hcell
 go_enter Tryz.func135,Tryz.ntmps135
 go_wp2
 go_loopw [3] (fun c wr=>∃ k:Nat,k≤l.length∧c=.int .i64 k∧Chg [] w wr∧Hid ((l.take k).Nodup)) (fun c _=>l.length - (intOf c).toNat)
 case atStart=>exact⟨0,Nat.zero_le _,rfl,Chg.refl _ _,lh (by simp)⟩
 case round =>
  obtain⟨k,hk,rfl,hc,hno⟩:=hrel;have HC:=lh hc;by_cases hlt:k<l.length
  ·obtain⟨b,off,rfl,hfc⟩:=HCE.out (by intro e;rw[e] at hlt;simp at hlt)
   have c0:=hc.c (hfc k hlt);have HL:=lh (aA.aEe hlt);have HS:=lh (aA.aDm hlt);have HSUB:=lh (fun (h:l.Nodup)=>h.sublist (List.take_sublist (k+1) l));obtain⟨z,hz⟩:∃ z,l.getD k 0=z:=⟨_,rfl⟩;rw[hz] at c0 HL HS;clear hfc hc hz
   go_wp2_with fail
   refine (xN _ l z _ (HI.out.fresh HC.out)).mono ?_;rintro e w2 ⟨rfl,hc2⟩;have HC2:=lh (HC.out.t hc2);clear hc2 c0;by_cases q:z∈l.take k
   ·have b1:decide (aA.mU l z<(k:Int))=true:=decide_eq_true (HL.out.2 q)
    have HE:=lh (show decide l.Nodup=false from decide_eq_false fun h=>(HS.out.1 (HSUB.out h)).2 q);clear q;go_wp2;go_ret;exact⟨bK HE.out.symm,HC2.out⟩
   have b1:decide (aA.mU l z<(k:Int))=false:=decide_eq_false fun h=>q (HL.out.1 h);have HN:=lh (HS.out.2 ⟨hno.out,q⟩);clear q;go_wp2
   go_roundw
   case rel=>exact⟨k+1,by omega,by go_num,HC2.out,HN⟩
   case measure=>simp[intOf];omega
  have e:k=l.length:=by omega
  subst e;have HE:=lh (decide_eq_true (by have:=hno.out;rwa[List.take_length] at this:l.Nodup));clear hc;go_wp2;go_ret;exact⟨bK HE.out.symm,HC.out⟩
end Go.Proofs.YtkacjmoamgjfpaaGreat
namespace Go.Proofs.YtkacjmoamgjfpaaGreat.aA
theorem aDr {g:Gr} {p:Pt} {aB:List (List Int)} (hp:bB g p) (ht:aW g p aB):∃ C,cF (bT g aB) C∧C.flatten.Perm p.aK:=by
 obtain⟨h1,h2⟩:=kP ht hp.en hp.vn hp.vr;have hA:=wV hp.en;have hl:leaving g p p.v=p.aK:=List.filter_eq_self.2 fun d hd=>decide_eq_true (hp.dN hd).1;have hd:(p.e.map fun e=>[2*e,2*e+1]).flatten=p.aK:=by rw[Pt.aK,List.flatMap_def]
 obtain⟨C,h,k,-⟩:=cF.mul _ rfl h1 hA (by rw[hd,←hl];exact h2.symm);exact⟨C,h.congr fun x _=>rfl,by rw[hd] at k;exact k⟩
structure Cyc (g:Gr) (p:Pt) (aB:List (List Int)) (d:Int) (l:List Int):Prop where
 ring:Ring (bT g aB) (d :: l)
 nodup:(d :: l).Nodup
 sub:∀ x∈d :: l,x∈p.aK
theorem aB5 {g:Gr} {p:Pt} {aB:List (List Int)} (hp:bB g p) (ht:aW g p aB) {d:Int} (hd:d∈p.aK):∃ l,Cyc g p aB d l:=by
 obtain⟨C,hC,hperm⟩:=aDr hp ht;obtain⟨c,hc,hdc⟩:=List.mem_flatten.1 (hperm.mem_iff.2 hd);obtain⟨l,hl,hlp⟩:=(hC.ring c hc).from hdc;exact⟨l,hl,hlp.nodup_iff.2 ((cV.1 hC.nodup).1 c hc),fun x hx=>hperm.mem_iff.1 (List.mem_flatten.2 ⟨c,hc,hlp.mem_iff.1 hx⟩)⟩
theorem Cyc.one {g:Gr} {p:Pt} {aB:List (List Int)} {d:Int} {l m:List Int} (h:Cyc g p aB d l) (k:Cyc g p aB d m):l=m :=
 Trail.det (x:=d) h.ring k.ring (List.nodup_cons.1 h.nodup).1 (List.nodup_cons.1 k.nodup).1
theorem Cyc.aB {g:Gr} {p:Pt} {aB:List (List Int)} {d x:Int} {l:List Int} (h:Cyc g p aB d l) (hx:x∈d :: l):∃ m,Cyc g p aB x m∧(x :: m).Perm (d :: l):=by
 obtain⟨m,hm,hp⟩:=h.ring.from hx;exact⟨m,⟨hm,hp.nodup_iff.2 h.nodup,fun y hy=>h.sub y (hp.mem_iff.1 hy)⟩,hp⟩
open Classical in
noncomputable def oS (g:Gr) (p:Pt) (aB:List (List Int)) (d:Int):List Int:=if h:∃ l,Cyc g p aB d l then Classical.choose h else []
theorem vD {g:Gr} {p:Pt} {aB:List (List Int)} (hp:bB g p) (ht:aW g p aB) {d:Int} (hd:d∈p.aK):Cyc g p aB d (oS g p aB d):=by
 have h:=aB5 hp ht hd;unfold oS;rw[dif_pos h];exact Classical.choose_spec h
theorem aDY {q:Int→Int} {d:Int} {l:List Int} (h:Ring q (d :: l)) {k:Nat} (hk:k≤l.length):q ((d :: l).getD k 0)=(l++[d]).getD k 0:=by
 have e:=Trail.map (show Trail q d l d from h);have e2:((d :: l).map q)[k]?=(l++[d])[k]?:=by rw[e]
 rw[List.getElem?_map] at e2;have h1:(d :: l)[k]?=some ((d :: l).getD k 0):=by
  rw[List.getElem?_eq_getElem (by simp;omega)];simp[List.getD,List.getElem?_eq_getElem (show k<(d :: l).length by simp;omega)]
 rw[h1,Option.map_some] at e2;unfold List.getD at e2 ⊢;rw[←e2];rfl
noncomputable def qD (g:Gr) (p:Pt) (aB:List (List Int)) (d:Int):Bool:=(oS g p aB d).all fun x=>decide (d<x)
noncomputable def eA (g:Gr) (p:Pt) (aB:List (List Int)) (k:Nat):List aO:=((p.aK.take k).filter (qD g p aB)).map fun d=>(d,d :: oS g p aB d)
theorem aA6 (g:Gr) (p:Pt) (aB:List (List Int)):eA g p aB 0=[]:=by simp[eA]
theorem aCh {g:Gr} {p:Pt} {aB:List (List Int)} {k:Nat} (hk:k<p.aK.length):eA g p aB (k+1)=eA g p aB k++if qD g p aB (p.aK.getD k 0) then [(p.aK.getD k 0,p.aK.getD k 0 :: oS g p aB (p.aK.getD k 0))] else []:=by
 unfold eA;rw[eD hk,List.filter_append,List.map_append]
 congr 1
 by_cases h:qD g p aB (p.aK.getD k 0)=true
 ·rw[List.filter_cons_of_pos h,if_pos h];rfl
 rw[List.filter_cons_of_neg h,if_neg h];rfl
theorem aCL (g:Gr) (p:Pt) (aB:List (List Int)) (k:Nat):(eA g p aB k).length≤k:=by
 unfold eA;rw[List.length_map];exact Nat.le_trans (List.length_filter_le _ _) (by rw[List.length_take];omega)
theorem fT {g:Gr} {p:Pt} {aB:List (List Int)} {f:aO} {k:Nat} (h:f∈eA g p aB k):f.1∈p.aK∧qD g p aB f.1=true∧f.2=f.1 :: oS g p aB f.1:=by
 unfold eA at h;obtain⟨d,hd,rfl⟩:=List.mem_map.1 h;obtain⟨h1,h2⟩:=List.mem_filter.1 hd;exact⟨(List.take_sublist _ _).subset h1,h2,rfl⟩
theorem vK {g:Gr} {p:Pt} {aB:List (List Int)} (hp:bB g p) (hr:p.e.Pairwise (·<·)) (ht:aW g p aB):Trk g p aB (eA g p aB p.aK.length) p.aK:=by
 have hle:∀ f∈eA g p aB p.aK.length,∀ y∈f.2,f.1≤y:=by
  intro f hf y hy;obtain⟨-,h2,h3⟩:=fT hf;rw[h3] at hy;rcases List.mem_cons.1 hy with q | q
  ·omega
  have:=List.all_eq_true.1 h2 y q;simp at this;omega
 have hcy:∀ f∈eA g p aB p.aK.length,Cyc g p aB f.1 (oS g p aB f.1):=fun f hf=>vD hp ht (fT hf).1;have hkeys:((eA g p aB p.aK.length).map (·.1))=p.aK.filter (qD g p aB):=by
  unfold eA;rw[List.take_length,List.map_map];exact List.map_id' _
 have hdp:=qS hr;have hksub:((eA g p aB p.aK.length).map (·.1)).Sublist p.aK:=by rw[hkeys];exact List.filter_sublist
 have hone:∀ f∈eA g p aB p.aK.length,∀ f'∈eA g p aB p.aK.length,∀ y,y∈f.2→y∈f'.2→f.1=f'.1:=by
  intro f hf f' hf' y hy hy';have h3:=(fT hf).2.2;have h3':=(fT hf').2.2;rw[h3] at hy;rw[h3'] at hy';obtain⟨m,hm,hmp⟩:=(hcy f hf).aB hy;obtain⟨m',hm',hmp'⟩:=(hcy f' hf').aB hy';have:=hm.one hm';subst this;have hperm:=hmp.symm.trans hmp';have h1:=hle f hf f'.1 (by rw[h3];exact hperm.mem_iff.2 (by simp));have h2:=hle f' hf' f.1 (by rw[h3'];exact hperm.mem_iff.1 (by simp));omega
 refine⟨⟨fun c hc=>?_,?_⟩,fun x hx=>?_,fun f hf=>⟨_,(fT hf).2.2⟩,hksub,fun f hf=>?_,fun x hx=>?_⟩
 ·obtain⟨f,hf,rfl⟩:=List.mem_map.1 hc
  rw[(fT hf).2.2];exact (hcy f hf).ring
 ·rw[cV]
  refine⟨fun l hl=>?_,?_⟩
  ·obtain⟨f,hf,rfl⟩:=List.mem_map.1 hl
   rw[(fT hf).2.2];exact (hcy f hf).nodup
  rw[List.pairwise_map];have hkp:(eA g p aB p.aK.length).Pairwise fun a b=>a.1<b.1:=by
   have:=hdp.sublist hksub;rwa[List.pairwise_map] at this
  refine hkp.imp_of_mem ?_;intro a b ha hb hab x hx y hy e;subst e;have:=hone a ha b hb x hx hy;omega
 ·obtain⟨c,hc,hxc⟩:=List.mem_flatten.1 hx
  obtain⟨f,hf,rfl⟩:=List.mem_map.1 hc;rw[(fT hf).2.2] at hxc;exact (hcy f hf).sub x hxc
 ·obtain⟨a,b,e⟩:=List.append_of_mem (fT hf).1
  refine⟨a,b,e,fun y hy ha=>?_⟩;have h1:=hle f hf y hy;rw[e] at hdp;have:=(List.pairwise_append.1 hdp).2.2 y ha f.1 (by simp);omega
 obtain⟨l,hl⟩:=aB5 hp ht hx;obtain⟨d,hd,hmin⟩:=exists_least (l:=x :: l) (by simp);obtain⟨m,hm,hmp⟩:=hl.aB hd;have hdd:=hl.sub d hd;have e:=(vD hp ht hdd).one hm;have hma:qD g p aB d=true:=by
  unfold qD;rw[List.all_eq_true,e];intro y hy;have h1:=hmin y (hmp.mem_iff.1 (by simp[hy]));have h2:d≠y:=fun q=>(List.nodup_cons.1 hm.nodup).1 (q ▸ hy);simp;omega
 refine List.mem_flatten.2 ⟨d :: oS g p aB d,List.mem_map.2 ⟨(d,d :: oS g p aB d),List.mem_map.2 ⟨d,List.mem_filter.2 ⟨by rw[List.take_length];exact hdd,hma⟩,rfl⟩,rfl⟩,?_⟩;rw[e];exact hmp.mem_iff.2 (by simp)
theorem qT {g:Gr} {p:Pt} {aB:List (List Int)} (hr:p.err g=0) (ht:aW g p aB):bW aB p.v++eA g p aB p.aK.length=aH g p aB :=
 ((vK (Pt.aQ hr) (cI (Pt.aV hr).2.2.1) ht).walks (Pt.aQ hr)).eq hr
def dX (g:Gr) (p:Pt) (v:Int):List Int:=p.aK.filter fun d=>decide (g.tail d=v)
def gF (g:Gr) (p:Pt) (v:Int) (k:Nat):List Int:=(p.aK.take k).filter fun d=>decide (g.tail d=v)
theorem zY (g:Gr) (p:Pt) (v:Int):gF g p v 0=[]:=by simp[gF]
theorem uU (g:Gr) (p:Pt) (v:Int):gF g p v p.aK.length=dX g p v:=by unfold gF dX;rw[List.take_length]
theorem aAt {g:Gr} {p:Pt} {v:Int} {k:Nat} (hk:k<p.aK.length):gF g p v (k+1)=if g.tail (p.aK.getD k 0)=v then gF g p v k++[p.aK.getD k 0] else gF g p v k:=by
 unfold gF;rw[eD hk,List.filter_append];by_cases h:g.tail (p.aK.getD k 0)=v
 ·rw[List.filter_cons_of_pos (by simpa using h),if_pos h];rfl
 rw[List.filter_cons_of_neg (by simpa using h),if_neg h];simp
theorem tI (g:Gr) (p:Pt) (v:Int) (k:Nat):(gF g p v k).length≤k :=
 Nat.le_trans (List.length_filter_le _ _) (by rw[List.length_take];omega)
theorem lK {g:Gr} {p:Pt} {v d:Int}:d∈dX g p v↔d∈p.aK∧g.tail d=v:=by simp[dX]
theorem qG {g:Gr} {p:Pt} (h:p.e.Nodup) (v:Int):(dX g p v).Nodup:=(eR h).filter _
theorem xD {p:Pt} {i:Nat} (hi:i<p.e.length) (s:Nat) (hs:s<2):p.aK.getD (2*i+s) 0=2*p.e.getD i 0+s:=by
 obtain⟨v,e⟩:=p;unfold Pt.aK;dsimp only at hi ⊢
 induction e generalizing i with
 | nil=>simp at hi
 | cons a l ih =>
  rw[List.flatMap_cons];cases i with
  | zero=>rcases (show s=0∨s=1 by omega) with rfl | rfl <;> simp[List.getD]
  | succ i =>
   have:=ih (i:=i) (by simpa using hi);rw[show 2*(i+1)+s=(2*i+s)+2 by omega];simpa[List.getD] using this
def nN (g:Gr) (p:Pt) (aB:List (List Int)) (v:Int):Prop:=(dX g p v).length=(aX aB v).length∧(aX aB v).Nodup∧∀ d∈dX g p v,d∈aX aB v
theorem aBp {l m:List Int} (hl:l.Nodup) (h:∀ x∈l,x∈m) (hlen:l.length=m.length):∀ x∈m,x∈l:=by
 intro x hx;refine Classical.byContradiction fun q=>?_;have h1:=cQ (l:=x :: l) (m:=m) (List.nodup_cons.2 ⟨q,hl⟩) (fun y hy=>by rcases List.mem_cons.1 hy with r | r;exact r ▸ hx;exact h y r);simp at h1;omega
theorem aW.nN {g:Gr} {p:Pt} {aB:List (List Int)} (hp:bB g p) (h:aW g p aB) {v:Int} (h0:0≤v) (hn:v<g.n):nN g p aB v:=by
 have hm:∀ d,d∈dX g p v↔d∈aX aB v:=fun d=>by rw[lK,h.mem v h0 hn]
 exact⟨((List.perm_ext_iff_of_nodup (qG hp.en v) (h.nodup v)).2 hm).length_eq,h.nodup v,fun d hd=>(hm d).1 hd⟩
theorem lV {g:Gr} {p:Pt} {aB:List (List Int)} (hp:bB g p) (hl:(aB.length:Int)=g.n) (h:∀ v:Nat,(v:Int)<g.n→aA.nN g p aB v):aW g p aB:=by
 have hrow:∀ v:Int,0≤v→v<g.n→aA.nN g p aB v:=fun v h0 hn=>by
  have:=h v.toNat (by omega);rwa[show ((v.toNat:Nat):Int)=v by omega] at this
 refine⟨hl,fun v=>?_,fun v h0 hn d=>?_⟩
 ·by_cases h1:v.toNat<aB.length
  ·have:=(hrow (v.toNat:Nat) (by omega) (by omega)).2.1
   unfold aX at this ⊢;rwa[Int.toNat_natCast] at this
  unfold aX;rw[List.getD,List.getElem?_eq_none (by omega)];simp
 obtain⟨h1,-,h3⟩:=hrow v h0 hn;rw[←lK];exact⟨fun hd=>aBp (qG hp.en v) h3 h1 d hd,h3 d⟩
theorem Pt.pU {g:Gr} {p:Pt} (h:p.err g=0) {e:Int} (he:e∈p.e):0≤e∧e<g.e.length:=by
 obtain⟨i,hi,rfl⟩:=cS he;have:=eB (Pt.aV h).2.2.1 hi;exact⟨this.1,this.2.1⟩
theorem Pt.mC {g:Gr} {p:Pt} (h:p.err g=0) {d:Int} (hd:d∈p.aK):∃ n:Nat,d=n∧n / 2<g.e.length∧n<2048:=by
 have h1:=pU h (bN.1 hd);have h2:=Gr.aV (Pt.aV h).1;exact⟨d.toNat,by omega,by omega,by omega⟩
theorem aBv {g:Gr} {p:Pt} {aB:List (List Int)} (h:p.err g=0) (hl:(aB.length:Int)≠g.n):bE g p aB=5:=eK h fun k=>hl k.len
theorem aCs {g:Gr} {p:Pt} {aB:List (List Int)} (h:p.err g=0) {v:Nat} (hv:(v:Int)<g.n) (hr:¬ aA.nN g p aB v):bE g p aB=5:=eK h fun k=>hr (k.nN (Pt.aQ h) (by omega) hv)
end Go.Proofs.YtkacjmoamgjfpaaGreat.aA
