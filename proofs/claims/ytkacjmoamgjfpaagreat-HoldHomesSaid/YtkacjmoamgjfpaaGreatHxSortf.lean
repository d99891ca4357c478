/- slices.SortFunc at this program, laid by the kit's own tools in plain words. Condition: what the structure says. -/
import Derived.Shelf.SlSortCmp.NoneTotal
import Derived.Test.YtkacjmoamgjfpaaGreatHxPlanR
namespace Go.Proofs
open Go.Shelf
def Tryz.sortRows_ren:Go.Shelf.Ren:=⟨fun | 6=>79 | 15=>133 | 14=>134 | 28=>188 | 29=>189 | 20=>190 | 21=>191 | 22=>192 | 23=>193 | 24=>194 | 25=>195 | 26=>196 | 27=>197 | 46=>227 | 47=>223 | 48=>224 | 49=>228 | 50=>229 | 57=>235 | n=>n,fun | 22=>30 | 24=>27 | 25=>107 | 3=>3 | 39=>168 | 0=>0 | 53=>213 | 55=>215 | 4=>4 | 46=>207 | 45=>206 | 50=>61 | 5=>5 | 9=>9 | 66=>235 | 70=>239 | 76=>244 | 77=>245 | n=>n,fun | n=>n⟩
theorem Tryz.sortRows:Go.Proofs.SlLaysF.n6 Tryz.prog Tryz.sortRows_ren:={
 mixed:=by kernel_rfl
 f6:=⟨Tryz.f79.name,by decide,Tryz.func79.trans (congrArg some (by kernel_rfl))⟩
 f14:=⟨Tryz.f134.name,by decide,Tryz.func134.trans (congrArg some (by kernel_rfl))⟩
 f15:=Tryz.func133.trans (congrArg some (by kernel_rfl))
 f20:=⟨Tryz.f190.name,by decide,Tryz.func190.trans (congrArg some (by kernel_rfl))⟩
 f21:=⟨Tryz.f191.name,by decide,Tryz.func191.trans (congrArg some (by kernel_rfl))⟩
 f22:=⟨Tryz.f192.name,by decide,Tryz.func192.trans (congrArg some (by kernel_rfl))⟩
 f23:=⟨Tryz.f193.name,by decide,Tryz.func193.trans (congrArg some (by kernel_rfl))⟩
 f24:=⟨Tryz.f194.name,by decide,Tryz.func194.trans (congrArg some (by kernel_rfl))⟩
 f25:=⟨Tryz.f195.name,by decide,Tryz.func195.trans (congrArg some (by kernel_rfl))⟩
 f26:=⟨Tryz.f196.name,by decide,Tryz.func196.trans (congrArg some (by kernel_rfl))⟩
 f27:=⟨Tryz.f197.name,by decide,Tryz.func197.trans (congrArg some (by kernel_rfl))⟩
 f28:=Tryz.func188.trans (congrArg some (by kernel_rfl))
 f29:=Tryz.func189.trans (congrArg some (by kernel_rfl))
 f46:=⟨Tryz.f227.name,by decide,Tryz.func227.trans (congrArg some (by kernel_rfl))⟩
 f47:=Tryz.func223.trans (congrArg some (by kernel_rfl))
 f48:=Tryz.func224.trans (congrArg some (by kernel_rfl))
 f49:=⟨Tryz.f228.name,by decide,Tryz.func228.trans (congrArg some (by kernel_rfl))⟩
 f50:=⟨Tryz.f229.name,by decide,Tryz.func229.trans (congrArg some (by kernel_rfl))⟩
 f57:=⟨Tryz.f235.name,by decide,Tryz.func235.trans (congrArg some (by kernel_rfl))⟩
 t0:=Tryz.underlying0
 a0:=Tryz.isAgg0
 z0:=Tryz.sizeOf0
 v0:=Tryz.zeroValue0
 t3:=Tryz.underlying3
 a3:=Tryz.isAgg3
 z3:=Tryz.sizeOf3
 v3:=Tryz.zeroValue3
 t4:=Tryz.underlying4
 a4:=Tryz.isAgg4
 z4:=Tryz.sizeOf4
 v4:=Tryz.zeroValue4
 t5:=Tryz.underlying5
 a5:=Tryz.isAgg5
 z5:=Tryz.sizeOf5
 v5:=Tryz.zeroValue5
 t9:=Tryz.underlying9
 a9:=Tryz.isAgg9
 z9:=Tryz.sizeOf9
 v9:=Tryz.zeroValue9
 t22:=Tryz.underlying30
 a22:=Tryz.isAgg30
 z22:=Tryz.sizeOf30
 v22:=Tryz.zeroValue30
 a24:=Tryz.isAgg27
 z24:=Tryz.sizeOf27
 t25:=Tryz.underlying107
 a25:=Tryz.isAgg107
 z25:=Tryz.sizeOf107
 v25:=Tryz.zeroValue107
 t39:=Tryz.underlying168
 a39:=Tryz.isAgg168
 z39:=Tryz.sizeOf168
 v39:=Tryz.zeroValue168
 t45:=Tryz.underlying206
 a45:=Tryz.isAgg206
 z45:=Tryz.sizeOf206
 v45:=Tryz.zeroValue206
 t46:=Tryz.underlying207
 a46:=Tryz.isAgg207
 z46:=Tryz.sizeOf207
 v46:=Tryz.zeroValue207
 t50:=Tryz.underlying61
 a50:=Tryz.isAgg61
 z50:=Tryz.sizeOf61
 v50:=Tryz.zeroValue61
 t53:=Tryz.underlying213
 a53:=Tryz.isAgg213
 z53:=Tryz.sizeOf213
 v53:=Tryz.zeroValue213
 t55:=Tryz.underlying215
 a55:=Tryz.isAgg215
 z55:=Tryz.sizeOf215
 v55:=Tryz.zeroValue215
 t66:=Tryz.underlying235
 a66:=Tryz.isAgg235
 z66:=Tryz.sizeOf235
 v66:=Tryz.zeroValue235
 t70:=Tryz.underlying239
 a70:=Tryz.isAgg239
 z70:=Tryz.sizeOf239
 v70:=Tryz.zeroValue239
 t76:=Tryz.underlying244
 a76:=Tryz.isAgg244
 z76:=Tryz.sizeOf244
 v76:=Tryz.zeroValue244
 t77:=Tryz.underlying245
 a77:=Tryz.isAgg245
 z77:=Tryz.sizeOf245
 v77:=Tryz.zeroValue245 }
end Go.Proofs
namespace Go.Proofs.YtkacjmoamgjfpaaGreat
open Go.RowKit Go.Maps
section
open Go.Sort
variable {α : Type} [Inhabited α]
theorem sorted_heap {enc:α→Value} {w:World} {g n:Nat} {os:Array Obj} {cur:Array Value} {e:TypeId} {fr:Nat × Nat} (d:Array α) (hb:w.heap[g]?=some (.cells cur e fr)) :
  (sortWorld enc w g 0 n d os).heap[g]?=some (.cells (putCells enc 0 d cur) e fr):=by
 have hg:g<w.heap.size:=(Array.getElem?_eq_some_iff.1 hb).1
 unfold sortWorld
 rw[heap_grow_old _ _ (by simpa using hg)]
 simp[putRow,mapBlock,Sort.ahead,Array.getElem?_modify,hb,onCells]
theorem sorted_chg (enc:α→Value) (w:World) (g n:Nat) (os:Array Obj) (d:Array α):Chg [g] w (sortWorld enc w g 0 n d os):=by
 refine⟨rfl,rfl,rfl,by simp[sortWorld],fun k hk hne=>?_⟩
 unfold sortWorld
 rw[heap_grow_old _ _ (by simpa using hk)]
 have:g≠k:=fun e=>hne (by simp[e])
 simp[putRow,mapBlock,Sort.ahead,Array.getElem?_modify,this]
theorem sorted_take (enc:α→Value) (cur:Array Value) (d:Array α) (h:d.size≤cur.size):(putCells enc 0 d cur).toList.take d.size=d.toList.map enc:=by
 apply List.ext_getElem?
 intro j
 by_cases hj:j<d.size
 ·rw[List.getElem?_take_of_lt hj,Array.getElem?_toList]
  simp[putCells,hj,show j<cur.size by omega]
 rw[List.getElem?_take_eq_none (by omega),List.getElem?_eq_none (by simp;omega)]
theorem sorted_owns {enc:α→Value} {w:World} {base g cap n:Nat} {e:TypeId} {os:Array Obj} {xs:List Value} {d:Array α} (h:w.ownsRow base e 1 (.slice (some ⟨g,0,none⟩) xs.length cap) xs.length xs) (hd:d.size=xs.length) :
  (sortWorld enc w g 0 n d os).ownsRow base e 1 (.slice (some ⟨g,0,none⟩) xs.length cap) xs.length (d.toList.map enc):=by
 rcases h.2 with ⟨h,-⟩ | ⟨g',cap',cur,hv,hg,hh,h1,h2,h3,h4⟩
 ·cases h
 cases hv
 exact⟨by simp[hd],.inr ⟨g,cap,_,rfl,hg,sorted_heap d hh,h1,h2,by simp[putCells,h3],by rw[Nat.mul_one,←hd];exact sorted_take enc cur d (by omega)⟩⟩
theorem sorted_holds {enc:α→Value} {w:World} {base g cap:Nat} {e:TypeId} {xs:List Value} {d:Array α} (h:w.ownsRow base e 1 (.slice (some ⟨g,0,none⟩) xs.length cap) xs.length xs) (hd:d.toList.map enc=xs):Holds enc w g 0 d:=by
 have hs:d.size=xs.length:=by rw[←hd];simp
 rcases h.2 with ⟨h,-⟩ | ⟨g',cap',cur,hv,hg,hh,h1,h2,h3,h4⟩
 ·cases h
 cases hv
 intro j hj
 refine⟨?_,by simp[World.frozen?,hh]⟩
 have e1:(cur.toList.take (xs.length*1))[j]?=xs[j]?:=by rw[h4]
 rw[List.getElem?_take_of_lt (by omega)] at e1
 simp only[World.cell?,hh,Nat.zero_add,Option.isSome_none,Bool.false_eq_true,if_false]
 rw[←Array.getElem?_toList,e1,←hd]
 simp[hj]
end
theorem nan_any (x:Int) (w:World):Calls Tryz.prog 142 #[.int .i64 x] w fun e w'=>e=.returned (.bool false)∧w=w':=by
 have b1:(x != x)=false:=by simp
 go_enter Tryz.func142,Tryz.ntmps142
 go_wp2
 go_ret
 exact⟨rfl,rfl⟩
theorem compare_any (x y:Int) (w:World):Calls Tryz.prog 94 #[.int .i64 x,.int .i64 y] w fun e w'=>e=.returned (.int .i64 (Lib.compareInt x y))∧w=w':=by
 have HC:=lh (show Lib.compareInt x y=if x<y then -1 else if y<x then 1 else 0 from rfl)
 go_enter Tryz.func94,Tryz.ntmps94
 go_wp2_with fail
 refine (nan_any x _).mono ?_
 rintro e w1 ⟨rfl,rfl⟩
 go_wp2_with fail
 refine (nan_any y _).mono ?_
 rintro e w1 ⟨rfl,rfl⟩
 by_cases h1:x<y
 ·have HR:=lh (show Lib.compareInt x y = -1 by rw[HC.out,if_pos h1])
  have b1:decide (x<y)=true:=decide_eq_true h1
  go_wp2
  go_ret
  exact⟨ret_int HR.out.symm,rfl⟩
 by_cases h2:y<x
 ·have HR:=lh (show Lib.compareInt x y=1 by rw[HC.out,if_neg h1,if_pos h2])
  have b1:decide (x<y)=false:=decide_eq_false h1
  have b2:decide (x > y)=true:=decide_eq_true h2
  go_wp2
  go_ret
  exact⟨ret_int HR.out.symm,rfl⟩
 have HR:=lh (show Lib.compareInt x y=0 by rw[HC.out,if_neg h1,if_neg h2])
 have b1:decide (x<y)=false:=decide_eq_false h1
 have b2:decide (x > y)=false:=decide_eq_false h2
 go_wp2
 go_ret
 exact⟨ret_int HR.out.symm,rfl⟩
theorem order1_any (ga oa gb ob n m c c':Nat) (x y:Int) (w:World) (hn:0<n) (hm:0<m) (h1:w.cell? ⟨ga,oa,none⟩=some (.int .i64 x)) (h2:w.cell? ⟨gb,ob,none⟩=some (.int .i64 y)) :
  Calls Tryz.prog 177 #[.slice (some ⟨ga,oa,none⟩) n c,.slice (some ⟨gb,ob,none⟩) m c'] w fun e w'=>e=.returned (.int .i64 (Lib.compareInt x y))∧∃ q,w'=w.drewN q:=by
 have i3:(0:Int)<(n:Int):=by omega
 have i4:(0:Int)<(m:Int):=by omega
 obtain⟨r,hr⟩:∃ r,Lib.compareInt x y=r:=⟨_,rfl⟩
 have HR:=lh hr
 rw[hr]
 clear hr
 go_enter Tryz.func177,Tryz.ntmps177
 go_wp2
 have hS0:(fun w':World=>w'.cell? ⟨ga,oa,none⟩=some (.int .i64 x)∧w'.cell? ⟨gb,ob,none⟩=some (.int .i64 y)) w.drew:=⟨h1,h2⟩
 refine wp_region_way (fun w':World=>w'.cell? ⟨ga,oa,none⟩=some (.int .i64 x)∧w'.cell? ⟨gb,ob,none⟩=some (.int .i64 y)) [0,1,2,3,4,5] (Way.line [0,1,2,3,4,5,6,7] .done) (by kernel_rfl) (by kernel_rfl) ?_
 simp only[Way.line]
 repeat
  first
   | (refine along_off rfl (by rfl) (by rfl) (fun _ _ _ h=>h) hS0 ?_;simp only[Act.put,Z1,Z2,Z3,Z4,Z5,Z6])
   | (refine along_read (v:=?_) rfl (by rfl) (by rfl) (fun _ _ _ h=>h) hS0 (fun w' hS'=>?_) ?_;rotate_left;(focus ((try dsimp only at hS');go_simp;try with_reducible rfl));simp only[Act.put,Z1,Z2,Z3,Z4,Z5,Z6])
   | (refine along_skip rfl (by rfl) (by rfl) hS0 ?_;simp only[Act.put,Z1,Z2,Z3,Z4,Z5,Z6])
 refine along_op rfl (by rfl) (by rfl) (fun K hK=>?_)
 go_simp
 refine (compare_any x y _).mono ?_
 rw[HR.out]
 rintro e w7 ⟨rfl,rfl⟩
 refine hK.out _ _ (fun _=>hS0) ?_
 clear hK K
 try simp only[Act.put,Z1,Z2,Z3,Z4,Z5,Z6]
 refine along_op rfl (by rfl) (by rfl) (fun K hK=>?_)
 go_simp
 refine hK.out _ _ (fun _=>hS0) ?_
 clear hK K
 try simp only[Act.put,Z1,Z2,Z3,Z4,Z5,Z6]
 refine along_done ?_
 go_wp2
 go_ret
 exact⟨rfl,1,rfl⟩
def RowIn (w:World) (B:Nat):Type:={z:Value × List Int // w.ownsRow B 3 1 z.1 z.2.length (ints z.2)∧z.2≠[]}
def RowIn.val {w:World} {B:Nat} (z:RowIn w B):Value:=z.1.1
def RowIn.key {w:World} {B:Nat} (z:RowIn w B):Int:=z.1.2.getD 0 0
def RowIn.cmp {w:World} {B:Nat} (y z:RowIn w B):Int:=Lib.compareInt y.key z.key
theorem RowIn.at_ {w:World} {B:Nat} (z:RowIn w B):∃ b n c,z.val=.slice (some ⟨b,0,none⟩) n c∧0<n∧w.cell? ⟨b,0,none⟩=some (.int .i64 z.key):=by
 obtain⟨⟨v,l⟩,h,hne⟩:=z
 have hl:0<l.length:=List.length_pos_iff.2 hne
 dsimp only at h hne
 obtain⟨g,cap,rfl⟩:=owns_some h hl
 refine⟨g,_,cap,rfl,hl,?_⟩
 have:=h.cellAt 0 (by simpa using hl)
 rw[this]
 cases l with
 | nil=>exact absurd rfl hne
 | cons x l=>rfl
theorem RowIn.one {w:World} {B:Nat}:OneCell (RowIn.val (w:=w) (B:=B)):=fun z=>by
 obtain⟨b,n,c,e,-,-⟩:=z.at_
 rw[e];rfl
theorem RowIn.lt {w:World} {B:Nat} (y z:RowIn w B):ltOf RowIn.cmp y z=decide (y.key<z.key):=by
 unfold ltOf RowIn.cmp Lib.compareInt
 by_cases h1:y.key<z.key
 ·simp[h1]
 by_cases h2:z.key<y.key <;> simp[h1,h2]
theorem RowIn.swo {w:World} {B:Nat}:Go.Sort.SWO (ltOf (RowIn.cmp (w:=w) (B:=B))) where
 irrefl x:=by rw[RowIn.lt];simp
 trans x y z h1 h2:=by rw[RowIn.lt] at *;simp at *;omega
 ntrans x y z h1 h2:=by rw[RowIn.lt] at *;simp at *;omega
theorem RowIn.cell {w:World} {B g:Nat} [Inhabited (RowIn w B)] (z:RowIn w B) (hg:∀ b,z.val.ownBlock=some b→b≠g) (m:Nat) (os:Array Obj) (d:Array (RowIn w B)):∃ b n c,z.val=.slice (some ⟨b,0,none⟩) n c∧0<n∧(Go.Proofs.sortWorld RowIn.val w g 0 m d os).cell? ⟨b,0,none⟩=some (.int .i64 z.key):=by
 obtain⟨b,n,c,e,hn,hc⟩:=z.at_
 refine⟨b,n,c,e,hn,(sorted_chg RowIn.val w g m os d).cell hc ?_⟩
 have:=hg b (by rw[e];rfl)
 simpa using this
theorem getD_at (xs:List Value) {i:Nat} (h:i<xs.length):xs.getD i undef=xs[i]:=by simp[List.getD,h]
theorem getBang {α:Type} [Inhabited α] (d:Array α) {i:Nat} (h:i<d.size):d[i]! = d.toList[i]'(by simpa using h):=by
 rw[getElem!_pos d i h];simp
theorem RowsOwn.sorted {w:World} {B g cap m:Nat} {vs:List Value} {ll:List (List Int)} {os:Array Obj} [Inhabited (RowIn w B)] {d d':Array (RowIn w B)} (h:RowsOwn w B (.slice (some ⟨g,0,none⟩) vs.length cap) vs ll)
  (hv:d.toList.map RowIn.val=vs) (hl:d.toList.map (fun z=>z.1.2)=ll) (hp:d'.toList.Perm d.toList) (hs:Go.Sort.SortedIn (ltOf RowIn.cmp) 0 d.size d') (hg:∀ z:RowIn w B,∀ b,z.val.ownBlock=some b→b≠g) :
  ∃ vs' ll',RowsOwn (Go.Proofs.sortWorld RowIn.val w g 0 m d' os) B (.slice (some ⟨g,0,none⟩) vs.length cap) vs' ll'∧vs'.length=vs.length∧ll'.Perm ll∧ll'.Pairwise (fun a b=>a.getD 0 0≤b.getD 0 0):=by
 have hsz:d'.size=d.size:=by have:=hp.length_eq;simpa using this
 have hvl:d.size=vs.length:=by rw[←hv];simp
 have hpv:(d'.toList.map RowIn.val).Perm vs:=by rw[←hv];exact hp.map _
 have hsome:∀ v∈vs,v.ownBlock≠none:=by
  intro v hm
  rw[←hv] at hm
  obtain⟨z,-,rfl⟩:=List.mem_map.1 hm
  obtain⟨b,n,c,e,-,-⟩:=z.at_
  rw[e];simp[Value.ownBlock]
 have hap:vs.Pairwise (fun a b=>a.ownBlock≠b.ownBlock):=by
  rw[List.pairwise_iff_getElem]
  intro i j hi hj hij
  have:=h.apart i j hi hj (by omega)
  have gi:vs.getD i undef=vs[i]:=by simp[List.getD,hi]
  have gj:vs.getD j undef=vs[j]:=by simp[List.getD,hj]
  rw[gi,gj] at this
  rcases this with q | q
  ·exact absurd q (hsome _ (List.getElem_mem hi))
  exact q
 have hap':(d'.toList.map RowIn.val).Pairwise (fun a b=>a.ownBlock≠b.ownBlock):=(hpv.pairwise_iff (fun h e=>h e.symm)).2 hap
 have hlen:(d'.toList.map RowIn.val).length=vs.length:=hpv.length_eq
 refine⟨d'.toList.map RowIn.val,d'.toList.map (fun z=>z.1.2),⟨?_,by simp,fun k hk=>?_,fun k l hk hl hne=>?_⟩,hlen,by rw[←hl];exact hp.map _,?_⟩
 ·rw[hlen]
  exact sorted_owns h.out (by omega)
 ·have hk':k<d'.toList.length:=by simpa using hk
  have e1:(d'.toList.map RowIn.val).getD k undef=(d'.toList[k]).val:=by simp[List.getD,show k<d'.size by simpa using hk']
  have e2:(d'.toList.map (fun z:RowIn w B=>z.1.2)).getD k []=(d'.toList[k]).1.2:=by simp[List.getD,show k<d'.size by simpa using hk']
  rw[e1,e2]
  refine owns_chg (d'.toList[k]).2.1 (sorted_chg RowIn.val w g m os d') (fun b hb e=>?_)
  exact hg _ b hb (by simpa using e)
 ·refine Or.inr ?_
  rw[getD_at _ hk,getD_at _ hl]
  rcases Nat.lt_or_gt_of_ne hne with q | q
  ·exact List.pairwise_iff_getElem.1 hap' k l hk hl q
  exact fun e=>List.pairwise_iff_getElem.1 hap' l k hl hk q e.symm
 rw[List.pairwise_iff_getElem]
 intro i j hi hj hij
 have hi':i<d'.size:=by simpa using hi
 have hj':j<d'.size:=by simpa using hj
 have:=hs i j (Nat.zero_le _) hij (by omega)
 rw[RowIn.lt,getBang d' hi',getBang d' hj'] at this
 simp only[List.getElem_map]
 have h2:=of_decide_eq_false this
 unfold RowIn.key at h2
 omega
theorem rows_in {w:World} {B:Nat}:∀ (vs:List Value) (ll:List (List Int)),vs.length=ll.length→(∀ k,k<vs.length→w.ownsRow B 3 1 (vs.getD k undef) (ll.getD k []).length (ints (ll.getD k []))∧ll.getD k []≠[])→∃ d:List (RowIn w B),d.map RowIn.val=vs∧d.map (fun z=>z.1.2)=ll
 | [],[],_,_=>⟨[],rfl,rfl⟩
 | [],_ :: _,h,_=>by simp at h
 | _ :: _,[],h,_=>by simp at h
 | v :: vs,l :: ll,h,hq=>by
  obtain⟨d,h1,h2⟩:=rows_in vs ll (by simpa using h) (fun k hk=>hq (k+1) (by simpa using hk))
  have q:w.ownsRow B 3 1 v l.length (ints l)∧l≠[]:=hq 0 (by simp)
  exact⟨⟨(v,l),q⟩ :: d,congrArg (v :: ·) h1,congrArg (l :: ·) h2⟩
set_option maxHeartbeats 1000000 in
theorem order_any (v:Value) (vs:List Value) (ll:List (List Int)) (B:Nat) (w:World) (hn:vs.length<4294967296) (h:RowsOwn w B v vs ll) (hne:∀ l∈ll,l≠[]) :
  Calls Tryz.prog 130 #[v] w fun e w'=>e=.returned (.tuple #[])∧∃ vs' ll',RowsOwn w' B v vs' ll'∧vs'.length=vs.length∧ll'.Perm ll∧ll'.Pairwise (fun a b=>a.getD 0 0≤b.getD 0 0)∧Chg v.ownBlock.toList w w':=by
 by_cases h0:vs.length=0
 ·obtain⟨ao,cap,rfl⟩:=owns_shape h.out
  have hl0:ll=[]:=List.length_eq_zero_iff.1 (by rw[←h.len,h0])
  have HH:=lh h
  have hcon:=AnyF.slices_SortFunc_none { Tryz.sortRows with } ao cap (.func (.func 177) #[] #[]) w
  change Calls Tryz.prog 79 _ _ _ at hcon
  rw[h0]
  clear h
  go_enter Tryz.func130,Tryz.ntmps130
  go_wp2_with (go_at_call 79;refine hcon.mono ?_;rintro e w' ⟨rfl,rfl⟩)
  refine bodyPost_end (v:=.tuple #[]) (by simp[results,Tryz.results130,go_sem]) rfl ?_
  refine⟨rfl,vs,ll,by rw[←h0];exact HH.out,h0,List.Perm.refl _,by rw[hl0];exact List.Pairwise.nil,Chg.refl _ _⟩
 obtain⟨g,cap,rfl⟩:=owns_some h.out (by omega)
 have hrow:∀ k,k<vs.length→w.ownsRow B 3 1 (vs.getD k undef) (ll.getD k []).length (ints (ll.getD k []))∧ll.getD k []≠[]:=fun k hk=>⟨h.rows k hk,hne _ (by have:=h.len;simp[List.getD,show k<ll.length by omega])⟩
 haveI:Inhabited (RowIn w B):=⟨⟨(vs.getD 0 undef,ll.getD 0 []),hrow 0 (by omega)⟩⟩
 obtain⟨dl,hvl,hll⟩:=rows_in vs ll h.len hrow
 obtain⟨d,hd⟩:∃ d:Array (RowIn w B),d=dl.toArray:=⟨_,rfl⟩
 have hv:d.toList.map RowIn.val=vs:=by rw[hd];exact hvl
 have hl:d.toList.map (fun z=>z.1.2)=ll:=by rw[hd];exact hll
 have hds:d.size=vs.length:=by rw[←hv];simp
 have hg:∀ z:RowIn w B,∀ b,z.val.ownBlock=some b→b≠g:=fun z b hb e=>by
  rcases owns_two z.2.1 h.out (by decide) with q | q
  ·rw[show z.1.1.ownBlock=some b from hb] at q;cases q
  exact q (by rw[show z.1.1.ownBlock=some b from hb,e];rfl)
 have hgb:g<w.heap.size:=owns_lt h.out rfl
 have eg:∀ args w,(callFunc 177 args).run Tryz.prog w=.ok (.enter 177 args) w:=enters_of Tryz.func177 (by kernel_rfl) rfl
 have hcmp:CmpLays1 (α:=RowIn w B) Tryz.prog 177 #[] RowIn.val RowIn.cmp g 0 d.size w:=by
  refine CmpReads.lays (fun m os dk _ x y=>?_)
  obtain⟨b1,n1,c1,e1,hn1,hc1⟩:=x.cell (hg x) m os dk
  obtain⟨b2,n2,c2,e2,hn2,hc2⟩:=y.cell (hg y) m os dk
  rw[e1,e2]
  exact order1_any b1 0 b2 0 n1 n2 c1 c2 x.key y.key _ hn1 hn2 hc1 hc2
 have hcon:=Any.slices_SortFunc Tryz.sortRows RowIn.val RowIn.one RowIn.cmp RowIn.swo 177 #[] g 0 cap d w eg hcmp (sorted_holds h.out hv) hgb (by omega)
 change Calls Tryz.prog 79 _ _ _ at hcon
 rw[hds] at hcon
 have hres:∀ d' n os,Go.Sort.PermIn 0 vs.length d d'→Go.Sort.SortedIn (ltOf RowIn.cmp) 0 vs.length d'→∃ vs' ll',RowsOwn (Go.Proofs.sortWorld RowIn.val w g 0 n d' os) B (.slice (some ⟨g,0,none⟩) vs.length cap) vs' ll'∧vs'.length=vs.length∧ll'.Perm ll∧ll'.Pairwise (fun a b=>a.getD 0 0≤b.getD 0 0):=by
  intro d' n os hp hs
  refine RowsOwn.sorted h hv hl ?_ (by rw[hds];exact hs) hg
  obtain⟨p1,-,p3⟩:=hp
  have q1:(d'.extract 0 vs.length)=d':=by rw[←hds,←p1];simp
  have q2:(d.extract 0 vs.length)=d:=by rw[←hds];simp
  rw[q1,q2] at p3
  exact p3
 have HRES:=lh hres
 have HCH:=lh (fun (d':Array (RowIn w B)) n os=>sorted_chg RowIn.val w g n os d')
 clear hres h hrow hd hvl hll hds hv hl hg hgb eg hcmp hne
 generalize vs.length=L at *
 go_enter Tryz.func130,Tryz.ntmps130
 go_wp2_with (go_at_call 79;refine hcon.mono ?_;rintro e w' ⟨rfl,d',n,os,hp,hs,rfl⟩)
 refine bodyPost_end (v:=.tuple #[]) (by simp[results,Tryz.results130,go_sem]) rfl ?_
 obtain⟨vs',ll',r1,r2,r3,r4⟩:=HRES.out d' n os hp hs
 exact⟨rfl,vs',ll',r1,r2,r3,r4,HCH.out d' n os⟩
namespace Plain
def singles (W:List Face) (met:List Int):List (List Int):=(W.filter fun f=>decide (f.1 ∉ met)).map fun f=>[f.1]
theorem singles_in {W:List Face} {met:List Int} {k:Nat} (hk:k<W.length) (h:(W.getD k (0,[])).1∈met):singles (W.take (k+1)) met=singles (W.take k) met:=by
 unfold singles
 rw[take_face hk,List.filter_append,List.map_append]
 obtain⟨fc,hfc⟩:∃ fc,W.getD k (0,[])=fc:=⟨_,rfl⟩
 rw[hfc] at h ⊢
 simp[h]
theorem singles_out {W:List Face} {met:List Int} {k:Nat} (hk:k<W.length) (h:(W.getD k (0,[])).1 ∉ met):singles (W.take (k+1)) met=singles (W.take k) met++[[(W.getD k (0,[])).1]]:=by
 unfold singles
 rw[take_face hk,List.filter_append,List.map_append]
 obtain⟨fc,hfc⟩:∃ fc,W.getD k (0,[])=fc:=⟨_,rfl⟩
 rw[hfc] at h ⊢
 simp[h]
theorem take_flat {same:List (List Int)} {i:Nat} (hi:i<same.length):(same.take (i+1)).flatten=(same.take i).flatten++same.getD i []∧same.take (i+1)=same.take i++[same.getD i []]:=by
 have:same.getD i []=same[i]:=by simp[List.getD,hi]
 rw[List.take_succ_eq_append_getElem hi,List.flatten_append,this];simp
theorem sameRun_two {ow:Int→Option Int} {same:List (List Int)} {st:St × List Int}:∀ i d,sameRun ow same st i=some d→∀ j,j<i→¬ listBad same j
 | 0,_,_=>by omega
 | i+1,d,h=>by
  have h:(sameRun ow same st i).bind _=some d:=h
  cases hm:sameRun ow same st i with
  | none=>rw[hm] at h;cases h
  | some m =>
   rw[hm] at h
   have h:(if listBad same i then none else listRun ow (same.getD i []) m (same.getD i []).length)=some d:=h
   split at h
   ·cases h
   rename_i hbad
   intro j hj
   by_cases e:j=i
   ·subst e;exact hbad
   exact sameRun_two i m hm j (by omega)
theorem planErr_two {g:Gr} {p:Pt} {turn same:List (List Int)} (h:planErr g p turn same=0):∀ i,i<same.length→2≤(same.getD i []).length:=by
 intro i hi
 obtain⟨-,c,hc,-⟩:=planErr_zero h
 have:=sameRun_two _ c hc i hi
 unfold listBad at this
 omega
theorem key_small {g:Gr} {p:Pt} {turn:List (List Int)} {W:List Face} (hpe:p.err g=0) (hW:WalksOk g p turn W) {f:Face} (hf:f∈W):-4611686018427387904≤f.1∧f.1≤4611686018427387904:=by
 have hpo:=Pt.ok_of_err hpe
 have hcor:=corner_mem hpo hW.faces f hf
 have hel:=Gr.err_ok (Pt.err_ok hpe).1
 have hkey:=hW.faces.key f hf
 have hall:∀ d l,f.2=d :: l→d∈p.darts:=fun d l e=>hW.faces.all.mem_iff.1 (List.mem_flatten.2 ⟨f.2,List.mem_map.2 ⟨_,List.mem_filter.2 ⟨hf,by rw[e];rfl⟩,rfl⟩,by rw[e];simp⟩)
 obtain⟨key,ds⟩:=f
 cases ds with
 | nil =>
  have h1:-1 - key∈p.v:=by
   unfold Face.corner at hcor
   exact hcor
  have:=hpo.vr _ h1
  show _≤key∧key≤_
  omega
 | cons d l =>
  have h1:key=d:=hkey d l rfl
  have h2:=dart_small hpe (hall d l rfl)
  show _≤key∧key≤_
  omega
theorem singles_len (W:List Face) (met:List Int):(singles W met).length≤W.length:=by
 unfold singles;rw[List.length_map];exact List.length_filter_le _ _
end Plain
theorem lit_own (w:World) {B:Nat} (hB:B≤w.heap.size) (x:Int):(w.alloc (.cells #[.int .i64 x] 3)).ownsRow B 3 1 (.slice (some ⟨w.heap.size,0,none⟩) 1 1) [x].length (ints [x]) :=
 ⟨rfl,.inr ⟨w.heap.size,1,#[.int .i64 x],rfl,hB,heap_alloc_new w _,Nat.le_refl _,by decide,rfl,rfl⟩⟩
set_option maxRecDepth 100000 in
set_option maxHeartbeats 8000000 in
theorem regions_any (vg vp vx:Value) (g:Plain.Gr) (p:Plain.Pt) (turn same:List (List Int)) (w:World) (hpl:p.e.length≤100000) (hpv:p.v.length≤100000) (hTL:turn.length<2147483648) (hS:Plain.sumLen turn turn.length<2147483648) (hsl:same.length≤10000) (hsr:∀ i,(same.getD i []).length≤10000) (hg:GrAt w vg g) (hp:PtAt w vp p) (hx:PlAt w vx turn same) :
  Calls Tryz.prog 76 #[vg,vp,vx] w fun e w'=>∃ ov,e=.returned (.tuple #[ov,.int .i64 (Plain.planErr g p turn same)])∧(Plain.planErr g p turn same≠0→ov=.slice none 0 0) ∧
   (Plain.planErr g p turn same=0→∃ vs ll,RowsOwn w' w.heap.size ov vs ll∧ll.Perm (same++Plain.singles (Plain.walksOf g p turn) same.flatten)∧ll.Pairwise (fun a b=>a.getD 0 0≤b.getD 0 0)∧Plain.WalksOk g p turn (Plain.walksOf g p turn))∧Chg [] w w':=by
 have HG:=lh hg
 have HP:=lh hp
 have HX:=lh hx
 have HSL:=lh hS
 have HSR:=lh hsr
 obtain⟨eo,cap,rfl,hn,hm,hsm,hcell⟩:=hg
 obtain⟨v1,v2,rfl,hv,he⟩:=hp
 obtain⟨ao,ac,rfl,has,ham,hacell⟩:=hv
 obtain⟨bo,bc,rfl,hbs,hbm,hbcell⟩:=he
 obtain⟨t1,t2,rfl,ht,hs⟩:=hx
 have HT:=lh ht
 obtain⟨tno,tc,rfl,htm,-⟩:=ht
 obtain⟨so,sc,rfl,hsm2,hsc⟩:=hs
 have HSC:=lh hsc
 obtain⟨-,-,hc1⟩:=box_two w #[.int .i64 g.n,.slice eo g.e.length cap] #[.slice ao p.v.length ac,.slice bo p.e.length bc] 24 29
 obtain⟨-,hc3⟩:=box_three w #[.int .i64 g.n,.slice eo g.e.length cap] #[.slice ao p.v.length ac,.slice bo p.e.length bc] #[.slice tno turn.length tc,.slice so same.length sc] 24 29 32
 have HC1:=lh (hc1.trans hc3 (by simp))
 have HBXS:=lh (fun w2 h=>three_boxes w (g:=g) (p:=p) (turn:=turn) (same:=same) (eo:=eo) (ao:=ao) (bo:=bo) (tno:=tno) (so:=so) (cap:=cap) (ac:=ac) (bc:=bc) (tc:=tc) (sc:=sc) (w2:=w2) h)
 clear hcell hacell hbcell hsm hbs has hn hc1 hc3 hsc hS hsr
 obtain⟨x0,x1,y0,y1,z0,z1,hsz⟩:=HBXS.out _ (Chg.refl _ _)
 go_enter Tryz.func76,Tryz.ntmps76
 go_wp2_with fail
 refine (right_any _ _ _ g p turn same _ hpl hpv hTL HSL.out hsl HSR.out (HG.out.fresh HC1.out) (HP.out.fresh HC1.out) (HX.out.fresh HC1.out)).mono ?_
 rintro e w3 ⟨rfl,hc3⟩
 have HC3:=lh (HC1.out.trans hc3 (by simp))
 have HC31:=lh hc3
 clear x0 x1 y0 y1 z0 z1 hsz
 obtain⟨x0,x1,y0,y1,z0,z1,hsz⟩:=HBXS.out w3 hc3
 clear hc3
 by_cases hz:Plain.planErr g p turn same=0
 ·have HZ:=lh hz
  rw[hz]
  clear hz
  have HR:=lh (Plain.flatErr_zero (Plain.planErr_zero HZ.out).1).1
  have HTWO:=lh (Plain.planErr_two HZ.out)
  have HROW0:=lh (RowsOwn.nil w3 w3.heap.size)
  have hmm:=@run_makeMap Tryz.prog
  have HM0:=lh (IMap.made w3)
  have HCM:=lh ((Chg.refl [] w3).alloc (.map #[] 0))
  have z0n:=fun o=>cellNew z0 o
  have z1n:=fun o=>cellNew z1 o
  go_wp2
  clear hmm z0n z1n x0 x1 y0 y1 z0 z1
  obtain⟨mb,hmb⟩:∃ mb,w3.heap.size=mb:=⟨_,rfl⟩
  have HMB:=lh hmb
  rw[hmb] at HM0 HROW0 ⊢
  have HROW1:=lh (HROW0.out.chg HCM.out (by simp) (by simp))
  clear hmb
  generalize w3.alloc (.map #[] 0)=w4 at *
  go_loopw [9,32] (fun ov c wr=>∃ (i:Nat) (vs:List Value) (f:Int→Option Int),i≤same.length∧c=.int .i64 i∧RowsOwn wr mb ov vs (same.take i)∧IMap wr mb (i*10000) f∧Hid (∀ y,f y=none↔y ∉ (same.take i).flatten)∧Chg [] w3 wr) (fun _ c _=>same.length - (intOf c).toNat)
  case atStart=>exact⟨0,[],_,Nat.zero_le _,rfl,HROW1.out,by rw[Nat.zero_mul];exact HM0.out,lh (fun y=>by simp),HCM.out⟩
  case round =>
   obtain⟨i,vs,f,hi,rfl,hro,hm,hff,hc⟩:=hrel
   have HRO:=lh hro
   have HM:=lh hm
   have HC:=lh hc
   have HC6:=lh (HC31.out.trans hc (by simp))
   obtain⟨-,-,-,-,-,z1,-⟩:=HBXS.out wr HC6.out
   obtain⟨oo,oc,rfl⟩:=owns_shape hro.out
   have hvl:vs.length≤i:=by rw[hro.len,List.length_take];omega
   by_cases hlt:i<same.length
   ·obtain⟨sb,soff,u,rfl,hcell,-,hints⟩:=HSC.out i hlt
    obtain⟨lo,lc,rfl,hlsm,hlm,hlcell⟩:=hints
    have h2:=HTWO.out i hlt
    obtain⟨lb,loff,rfl,hlc⟩:=hlcell (by intro e;rw[e] at h2;simp at h2)
    have c0:=HC6.out.cell (HC1.out.cell hcell (by simp)) (by simp)
    have hll:=HSR.out i
    have HTF:=lh (Plain.take_flat hlt)
    have HLC:=lh (show ∀ wx,Chg [] w3 wx→∀ k,k<(same.getD i []).length→wx.cell? ⟨lb,loff+k,none⟩=some (.int .i64 ((same.getD i []).getD k 0)) from fun wx hx k hk=>(HC3.out.trans hx (by simp)).cell (hlc k hk) (by simp))
    have HLS:=lh hlsm
    have II:I64 (i:Int):=I64.mk (by omega) (by omega)
    clear hcell hlcell hlc hlsm hro hm hc hlm
    generalize same.getD i []=l at *
    go_wp2_with fail
    refine (Tryz.slices_Clone_int lb loff l.length lc l _ (Nat.le_refl _) (by omega) (HLC.out _ HC.out)).mono ?_
    rintro e w6 ⟨v',rfl,hown,-,hb⟩
    have hc6:=Chg.of_below hb (Nat.le_refl _)
    rw[List.take_length] at hown
    have HRO6:=lh (HRO.out.chg hc6 (by simp) (by simp))
    have HM6:=lh (HM.out.chg hc6 (by simp))
    have HC7:=lh (HC.out.trans hc6 (by simp))
    have HOWN:=lh (owns_base hown (show mb≤wr.heap.size by have:=HM.out.lt;omega))
    have HAP:=lh (show ∀ k b,k<vs.length→(vs.getD k undef).ownBlock=some b→v'.ownBlock≠some b from fun k b hk hb e=>by
     have h1:=owns_lt (HRO.out.rows k hk) hb
     have h2:=(hown.lt b e).1
     omega)
    have HBM:=lh (show mb≤w6.heap.size by have:=HM6.out.lt;omega)
    obtain⟨vo,vc,rfl⟩:=owns_shape hown
    have hvl2:vs.length<68719476736:=by omega
    clear c0 z1 hown hb hc6
    go_wp2_with (at_builtin;refine wp_app elemRow rfl (.tmp 37) (.tmp 40) rfl (v:=.slice oo vs.length oc) rfl rfl rfl HRO6.out.out HBM.out rfl (oneSlice _ _ _) hvl2 ?_;intro g8 cap8 w8 r8 c8 l8;have R8:=lh r8;have C8:=lh c8;clear r8 c8 l8)
    have HRO8:=lh (HRO6.out.add HOWN.out HAP.out R8.out C8.out)
    have HOL:=lh (show ∀ j∈(Value.slice oo vs.length oc).ownBlock.toList,w3.heap.size≤j from fun j hj=>by have:=(HRO6.out.out.lt j (by simpa using hj)).1;have:=HMB.out;omega)
    have HC8:=lh (HC7.out.trans C8.out (fun j hj=>Or.inr (HOL.out j hj)))
    have HM8:=lh (HM6.out.chg C8.out (fun e=>owns_map HRO6.out.out HM6.out (by simpa using e)))
    have hLL:l.length<4294967296:=by omega
    go_loopw [44] (fun c wi=>∃ (k:Nat) (f:Int→Option Int),k≤l.length∧c=.int .i64 k∧IMap wi mb (i*10000+k) f∧Hid (∀ y,f y=none↔y ∉ (same.take i).flatten++l.take k)∧Chg [mb] w8 wi) (fun c _=>l.length - (intOf c).toNat)
    case atStart=>exact⟨0,f,Nat.zero_le _,rfl,HM8.out,lh (fun y=>by rw[List.take_zero,List.append_nil];exact hff.out y),Chg.refl _ _⟩
    case round =>
     obtain⟨k,f2,hk,rfl,hm2,hff2,hch⟩:=hrel
     have HMK:=lh hm2
     have HCH:=lh hch
     have HCK:=lh (HC8.out.trans hch (fun j hj=>Or.inr (by simp at hj;have:=HMB.out;omega)))
     by_cases hltk:k<l.length
     ·have ck:=HLC.out _ HCK.out k hltk
      have IK:=HLS.out (l.getD k 0) (Plain.getD_mem hltk)
      have HTS:=lh (Plain.take_snoc hltk)
      have hmx:i*10000+k<maxLen:=by unfold maxLen;omega
      obtain⟨key,hkey⟩:∃ key,l.getD k 0=key:=⟨_,rfl⟩
      rw[hkey] at ck IK HTS
      have HFN:=lh (show ∀ y,(if y=key then some (i:Int) else f2 y)=none↔y ∉ (same.take i).flatten++l.take (k+1) from fun y=>by
       rw[HTS.out,←List.append_assoc]
       by_cases e:y=key
       ·subst e;simp
       rw[if_neg e,hff2.out y];simp[e])
      clear hm2 hch hkey
      go_wp2_with (at_mapUpdate;refine wp_store _ rfl _ _ _ rfl HMK.out hmx rfl IK II rfl rfl ?_;intro w9 m9 g9;have M9:=lh m9;have G9:=lh g9;clear m9 g9 ck)
      go_roundw
      case rel=>exact⟨k+1,_,by omega,by go_num,M9.out,HFN,HCH.out.grown G9.out (fun j hj=>by cases hj;exact Or.inl (by simp))⟩
      case measure=>simp[intOf];omega
     have e:k=l.length:=by omega
     have HRO9:=lh (HRO8.out.chg hch (fun b hb q=>by simp at q;subst q;exact owns_map HRO8.out.out HM8.out hb) (fun k b hk hb q=>by simp at q;subst q;exact owns_map (HRO8.out.rows k hk) HM8.out hb))
     have HF3:=lh (show ∀ y,f2 y=none↔y ∉ (same.take (i+1)).flatten from fun y=>by rw[hff2.out y,HTF.out.1,e,List.take_length])
     clear hm2 hch
     subst e
     go_wp2
     go_roundw
     case rel=>exact⟨i+1,_,f2,by omega,by go_num,by rw[HTF.out.2];exact HRO9.out,HMK.out.mono (by omega),HF3,HCK.out⟩
     case measure=>simp[intOf];omega
   have e:i=same.length:=by omega
   subst e
   rw[List.take_length] at hro hff
   have HRS:=lh hro
   obtain⟨x0,x1,y0,y1,z0,-,-⟩:=HBXS.out wr HC6.out
   clear HRO hro hm hc z1
   generalize wr=wy at *
   go_wp2_with fail
   refine (walks_any _ _ _ g p turn _ (by omega) (by omega) hTL HSL.out (HG.out.fresh (HC3.out.trans HC.out (by simp))) (HP.out.fresh (HC3.out.trans HC.out (by simp))) (HT.out.fresh (HC3.out.trans HC.out (by simp)))).mono ?_
   rintro e w5 ⟨ovw,rfl,-,hw2,hc5⟩
   obtain⟨W,xw,hwk,hnw⟩:=hw2 HR.out
   have HWE:=lh (hwk.eq (Plain.turnErr_zero HR.out).1)
   have HWK:=lh hwk
   have HNW:=lh hnw
   obtain⟨wo,wcap,rfl⟩:=hnw.shape
   have hwl:=hwk.len
   have HC5:=lh (HC.out.trans hc5 (by simp))
   have HM5:=lh (HM.out.chg hc5 (by simp))
   have HRO5:=lh (HRS.out.chg hc5 (by simp) (by simp))
   have HNB:=lh (show mb<wy.heap.size from HM.out.lt)
   rw[HR.out]
   clear hw2 hwk hnw hc5 x0 x1 y0 y1 z0
   go_wp2
   go_loopw [9,63] (fun ov c wr=>∃ (k:Nat) (vs:List Value),k≤W.length∧c=.int .i64 k∧RowsOwn wr mb ov vs (same++Plain.singles (W.take k) same.flatten)∧IMap wr mb (same.length*10000) f∧Nest wr wy.heap.size 120 2 (.slice wo W.length wcap) W.length xw (faceCells W)∧Chg [] w3 wr) (fun _ c _=>W.length - (intOf c).toNat)
   case atStart=>exact⟨0,vs,Nat.zero_le _,rfl,by rw[List.take_zero];simpa[Plain.singles] using HRO5.out,HM5.out,HNW.out,HC5.out⟩
   case round =>
    obtain⟨k,vs2,hk,rfl,hro,hm,hnw,hc⟩:=hrel
    have HROK:=lh hro
    have HMK:=lh hm
    have HNK:=lh hnw
    have HCK:=lh hc
    obtain⟨oo2,oc2,rfl⟩:=owns_shape hro.out
    have hvl3:vs2.length<68719476736:=by
     have:=Plain.singles_len (W.take k) same.flatten
     rw[List.length_take] at this
     rw[hro.len,List.length_append];omega
    by_cases hltk:k<W.length
    ·obtain⟨wg,wc',da,dc,hwe,hf1,hf2,-⟩:=nest_face hnw rfl hltk
     simp only[Value.slice.injEq] at hwe
     obtain⟨rfl,-,rfl⟩:=hwe
     have hmem:W.getD k (0,[])∈W:=by simp[List.getD,hltk]
     have hks:=Plain.key_small (Plain.turnErr_zero HR.out).1 HWK.out hmem
     have HIN:=lh (Plain.singles_in (W:=W) (met:=same.flatten) hltk)
     have HOUT:=lh (Plain.singles_out (W:=W) (met:=same.flatten) hltk)
     obtain⟨key,hkey⟩:∃ key,(W.getD k (0,[])).1=key:=⟨_,rfl⟩
     obtain⟨dn,hdn⟩:∃ dn,(W.getD k (0,[])).2.length=dn:=⟨_,rfl⟩
     rw[hkey] at hf1 hks HIN HOUT
     rw[hdn] at hf2
     have IK:I64 key:=I64.mk (by omega) (by omega)
     have HBX:=lh ((Chg.refl [] wr).alloc (.cells #[.int .i64 key,.slice da dn dc] 120))
     have b0:=(cell_of_row _ _ 0 _ _ _ (heap_alloc_new wr (.cells #[.int .i64 key,.slice da dn dc] 120))).trans (show _=some (Value.int .i64 key) from rfl)
     have HMB2:=lh (HMK.out.chg HBX.out (by simp))
     have HROB:=lh (HROK.out.chg HBX.out (by simp) (by simp))
     have HNB2:=lh (HNK.out.fresh HBX.out)
     have HCB:=lh (HCK.out.trans HBX.out (by simp))
     clear hro hm hnw hc hmem hks hkey hdn
     cases hfk:f key with
     | some vv =>
      have HF:=lh hfk
      have HEQ:=lh (HIN.out (Classical.byContradiction fun q=>by rw[(hff.out key).2 q] at hfk;cases hfk))
      clear hfk
      go_wp2_with (at_lookup;refine wp_look_hit _ rfl _ _ rfl HMB2.out rfl IK rfl HF ?_)
      go_roundw
      case rel=>exact⟨k+1,vs2,by omega,by go_num,by rw[HEQ.out];exact HROB.out,HMB2.out,HNB2.out,HCB.out⟩
      case measure=>simp[intOf];omega
     | none =>
      have HF:=lh hfk
      have HEQ:=lh (HOUT.out ((hff.out key).1 hfk))
      have HSZ:=lh (show mb≤(wr.alloc (.cells #[.int .i64 key,.slice da dn dc] 120)).heap.size by have:=HMB2.out.lt;omega)
      have hs1:(wr.alloc (.cells #[.int .i64 key,.slice da dn dc] 120)).heap.size=wr.heap.size+1:=by simp
      have hlit:=lit_own (wr.alloc (.cells #[.int .i64 key,.slice da dn dc] 120)) HSZ.out key
      rw[hs1] at hlit
      have HLIT:=lh hlit
      have HCL:=lh ((Chg.refl [] (wr.alloc (.cells #[.int .i64 key,.slice da dn dc] 120))).alloc (.cells #[.int .i64 key] 3))
      have HROL:=lh (HROB.out.chg HCL.out (by simp) (by simp))
      have HML:=lh (HMB2.out.chg HCL.out (by simp))
      have HNL:=lh (HNB2.out.fresh HCL.out)
      have HCL3:=lh (HCB.out.trans HCL.out (by simp))
      have HAP:=lh (show ∀ k b,k<vs2.length→(vs2.getD k undef).ownBlock=some b→(Value.slice (some ⟨wr.heap.size+1,0,none⟩) 1 1).ownBlock≠some b from fun k b hk hb e=>by
       have h1:=owns_lt (HROB.out.rows k hk) hb
       have h2:wr.heap.size+1=b:=Option.some.inj e
       omega)
      have HSL2:=lh (show mb≤((wr.alloc (.cells #[.int .i64 key,.slice da dn dc] 120)).alloc (.cells #[.int .i64 key] 3)).heap.size by have:=HML.out.lt;omega)
      clear hfk hlit hs1
      go_wp2_with (first
       | (at_lookup;refine wp_look_miss _ rfl _ _ rfl HMB2.out rfl IK rfl HF ?_)
       | (at_builtin;refine wp_app elemRow rfl (.tmp 76) (.tmp 80) rfl (v:=.slice oo2 vs2.length oc2) rfl rfl (by simp) HROL.out.out HSL2.out rfl (oneSlice _ _ _) hvl3 ?_;intro g9 cap9 w9 r9 c9 l9;have R9:=lh r9;have C9:=lh c9;clear r9 c9 l9;go_frame))
      go_roundw
      case rel =>
       refine⟨k+1,_,by omega,by go_num,by rw[HEQ.out,←List.append_assoc];exact HROL.out.add HLIT.out HAP.out R9.out C9.out,HML.out.chg C9.out (fun e=>owns_map HROL.out.out HML.out (by simpa using e)),HNL.out.other C9.out (fun j hj cs t r hh=>?_),HCL3.out.trans C9.out (fun j hj=>Or.inr (by have:=(HROL.out.out.lt j (by simpa using hj)).1;have:=HMB.out;omega))⟩
       rcases HROL.out.out.2 with ⟨q,-⟩ | ⟨g',c',cur,q,-,hg,-⟩
       ·rw[q] at hj;simp[Value.ownBlock] at hj
       rw[q] at hj;simp[Value.ownBlock] at hj;subst hj
       rw[hg] at hh
       simp at hh
       rw[←hh.2.1]
       exact⟨by decide,by decide⟩
      case measure=>simp[intOf];omega
    have e:k=W.length:=by omega
    subst e
    rw[List.take_length] at hro
    have HFIN:=lh hro
    have hvl4:vs2.length<4294967296:=by
     have:=Plain.singles_len W same.flatten
     rw[hro.len,List.length_append];omega
    have HNE:=lh (show ∀ l∈same++Plain.singles W same.flatten,l≠[] from fun l hl e=>by
     rcases List.mem_append.1 hl with h | h
     ·obtain⟨i,hi,e2⟩:=List.getElem_of_mem h
      have:=HTWO.out i hi
      have e3:same.getD i []=[]:=by simp[List.getD,hi,e2,e]
      rw[e3] at this
      simp at this
     obtain⟨f',-,e2⟩:=List.mem_map.1 h
     rw[e] at e2
     cases e2)
    clear hro hm hnw hc HROK
    go_wp2_with fail
    refine (order_any _ vs2 _ mb _ hvl4 HFIN.out HNE.out).mono ?_
    rintro e w9 ⟨rfl,vs3,ll3,h1,h2,h3,h4,h5⟩
    have H1:=lh h1
    have H3:=lh h3
    have H4:=lh h4
    have HC9:=lh (HC3.out.trans (HCK.out.trans h5 (fun j hj=>Or.inr (by have:=(HFIN.out.out.lt j (by simpa using hj)).1;have:=HMB.out;omega))) (by simp))
    clear h1 h3 h4 h5
    go_wp2
    refine bodyPost_ret (v:=.tuple #[.slice oo2 vs2.length oc2,.int .i64 0]) (by simp[results,Tryz.results76,go_sem]) rfl ?_
    exact⟨_,by rw[HZ.out],fun h=>absurd HZ.out h,fun _=>⟨vs3,ll3,H1.out.base (by have:=HMB.out;have:=HC3.out.size;omega),by rw[←HWE.out];exact H3.out,H4.out,HWE.out ▸ HWK.out⟩,HC9.out⟩
 have HZ:=lh hz
 obtain⟨er,her⟩:∃ er,Plain.planErr g p turn same=er:=⟨_,rfl⟩
 have HER:=lh her
 have hzb:(er != 0)=true:=by rw[←her];simp[HZ.out]
 rw[her]
 clear her
 go_wp2
 refine bodyPost_ret (v:=.tuple #[.slice none 0 0,.int .i64 er]) (by simp[results,Tryz.results76,go_sem]) rfl ?_
 exact⟨_,by rw[HER.out],fun _=>rfl,fun h=>absurd h HZ.out,HC3.out⟩
end Go.Proofs.YtkacjmoamgjfpaaGreat
