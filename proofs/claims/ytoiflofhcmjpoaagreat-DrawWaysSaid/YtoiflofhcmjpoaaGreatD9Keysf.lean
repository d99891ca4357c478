/- slices.Sorted, maps.Keys at this program, laid by the kit's own tools in plain words. Condition: what the structures say. -/
import Derived.Shelf.SlIterI.Sorted
import Derived.Ground.GgzProg
import Derived.Test.YtoiflofhcmjpoaaGreatD9SkF
open Go.Value renaming slice→Qa
open List renaming mergeSort_perm→Qb,mem_map→Qc,mem_cons_of_mem→Qd,flatten_cons→Qf,any_eq_true→Qg,mem_flatten→Qh
open Go.Act renaming put→Qe
namespace Go.Proofs
open Go.Shelf
def Tryz.yB:Go.Shelf.Ren:=⟨fun | 7=>79 | 10=>125 | n=>n,fun | 23=>97 | 26=>3 | 3=>25 | 28=>104 | 0=>0 | 27=>103 | 33=>80 | 4=>4 | n=>n,fun | n=>n⟩
theorem Tryz.Uh:Go.Proofs.SlLaysZI.n7 Tryz.prog Tryz.yB:={
 mixed:=by kernel_rfl
 f7:=⟨Tryz.f79.name,by decide,Tryz.func79.trans (congrArg some (by kernel_rfl))⟩
 f10:=⟨Tryz.f125.name,by decide,Tryz.func125.trans (congrArg some (by kernel_rfl))⟩
 t0:=Tryz.underlying0
 a0:=Tryz.isAgg0
 z0:=Tryz.sizeOf0
 v0:=Tryz.zeroValue0
 t4:=Tryz.underlying4
 a4:=Tryz.isAgg4
 z4:=Tryz.sizeOf4
 v4:=Tryz.zeroValue4
 t23:=Tryz.underlying97
 a23:=Tryz.isAgg97
 z23:=Tryz.sizeOf97
 v23:=Tryz.zeroValue97
 t26:=Tryz.underlying3
 a26:=Tryz.isAgg3
 z26:=Tryz.sizeOf3
 v26:=Tryz.zeroValue3
 t27:=Tryz.underlying103
 a27:=Tryz.isAgg103
 z27:=Tryz.sizeOf103
 v27:=Tryz.zeroValue103
 t28:=Tryz.underlying104
 a28:=Tryz.isAgg104
 z28:=Tryz.sizeOf104
 v28:=Tryz.zeroValue104
 t33:=Tryz.underlying80
 a33:=Tryz.isAgg80
 z33:=Tryz.sizeOf80
 v33:=Tryz.zeroValue80 }
def Tryz.sq:Go.Shelf.Ren:=⟨fun | 6=>78 | 8=>124 | 9=>59 | 11=>173 | 13=>111 | 12=>110 | 23=>164 | 24=>165 | 14=>156 | 15=>157 | 16=>158 | 17=>159 | 18=>160 | 19=>161 | 20=>154 | 21=>162 | 22=>163 | 25=>196 | 26=>197 | 27=>198 | 28=>199 | 29=>200 | 30=>152 | 31=>207 | n=>n,fun | 26=>3 | 28=>104 | 24=>25 | 0=>0 | 3=>3 | 37=>148 | 48=>189 | 50=>191 | 4=>4 | 40=>183 | 39=>182 | 45=>114 | 5=>5 | 9=>9 | 51=>208 | 55=>212 | 57=>218 | 58=>219 | 33=>80 | n=>n,fun | n=>n⟩
theorem Tryz.Pk:Go.Proofs.SlLaysZI.n6 Tryz.prog Tryz.sq:={
 mixed:=by kernel_rfl
 f6:=⟨Tryz.f78.name,by decide,Tryz.func78.trans (congrArg some (by kernel_rfl))⟩
 f8:=⟨Tryz.f124.name,by decide,Tryz.func124.trans (congrArg some (by kernel_rfl))⟩
 f11:=⟨Tryz.f173.name,by decide,Tryz.func173.trans (congrArg some (by kernel_rfl))⟩
 t0:=Tryz.underlying0
 a0:=Tryz.isAgg0
 z0:=Tryz.sizeOf0
 v0:=Tryz.zeroValue0
 t24:=Tryz.underlying25
 a24:=Tryz.isAgg25
 z24:=Tryz.sizeOf25
 v24:=Tryz.zeroValue25
 t26:=Tryz.underlying3
 a26:=Tryz.isAgg3
 z26:=Tryz.sizeOf3
 v26:=Tryz.zeroValue3
 t28:=Tryz.underlying104
 a28:=Tryz.isAgg104
 z28:=Tryz.sizeOf104
 v28:=Tryz.zeroValue104
 i26:=by kernel_rfl }
end Go.Proofs
namespace Go.Proofs.YtoiflofhcmjpoaaGreat
open Go.RowKit Go.Maps Go.Sort
theorem MH (m:Nat):AnyZI.SortsIn Tryz.prog Tryz.sq Fence.wide m :=
 ⟨fun iN off cap ss W hH hblk dj=>callsIn_wide.2 (Tryz.slices_Sort_int iN off cap ss W hH hblk dj),
  fun p cap W=>callsIn_wide.2 (Tryz.slices_Sort_int_none p cap W)⟩
theorem MK (b:Nat) (w:World):Calls Tryz.prog 79 #[.map (some b)] w fun e w' =>
  e=.returned (.func (.func 125) #[] #[.pointer (some ⟨w.heap.size,0,none⟩)])/\w'=w.alloc (.cells #[.map (some b)] 97) :=
 (callsIn_wide (n:=5)).1 (AnyZI.keys_in Tryz.Uh Fence.wide 5 trivial rfl (some b) w)
theorem ic.keys {w:World} {b n:Nat} {F:Int->Option Value} (h:ic w b n F):∃ D:DataW Unit,w.ownsMap Tryz.prog 3 oR b n D/\Maps.size D<=n/\(intKeys D).Nodup/\∀ x,x∈intKeys D↔aU x/\(F x).isSome=true:=by
 obtain⟨D,bH,hD⟩:=h;obtain⟨es,rfl,hpw,_⟩:=bH.entries bI;obtain⟨es',e,Uj⟩:=bH.keysOf;obtain rfl:es=es':=by simpa using e
 have hk:∀ p∈es,∃ x,p.1=.int .i64 x/\aU x:=fun p hp=>by
  obtain⟨v,hv⟩:=Uj p hp;obtain⟨x,_,hx,hw⟩:=Maps.keyOf_i64 Tryz.underlying3 hv;exact⟨x,hx,hw⟩
 refine⟨_,bH,bH.size_le,?_,fun x=>?_⟩
 ·show (es.map fun p=>Go.intOf p.1).Nodup
  refine List.pairwise_map.2 (hpw.imp_of_mem fun {p q} hp' hq' bh e=>bh ?_);obtain⟨a,ha,-⟩:=hk p hp';obtain⟨c,hc,-⟩:=hk q hq';rw[ha,hc] at e ⊢;exact congrArg _ e
 show x∈es.map (fun p=>Go.intOf p.1)↔_;rw[Qc];constructor
 ·rintro ⟨p,hp,rfl⟩
  obtain⟨a,ha,hi⟩:=hk p hp;rw[ha];show aU a/\(F a).isSome=true;refine⟨hi,?_⟩;rw[<-(hD a hi).1,has_eq,Qg];exact⟨p,hp,by rw[ha];simp[Lit.sameKey]⟩
 rintro ⟨hi,hs⟩;rw[<-(hD x hi).1,has_eq,Qg] at hs;obtain⟨p,hp,hs⟩:=hs;obtain⟨a,ha,-⟩:=hk p hp;rw[ha] at hs;refine⟨p,hp,?_⟩;rw[ha];simpa[Lit.sameKey,Go.intOf] using hs
theorem Gg (b n:Nat) (F:Int->Option Value) (ks:List Int) (w:World) (h:ic w b n F) (hn:n<=1000000) (hks:ks.Nodup) (hm:∀ x,x∈ks↔aU x/\(F x).isSome=true) :
  Calls Tryz.prog 78 #[.func (.func 125) #[] #[.pointer (some ⟨w.heap.size,0,none⟩)]] (w.alloc (.cells #[.map (some b)] 97)) fun e w' =>
   ∃ v,e=.returned v/\aj w' w.heap.size v (ks.mergeSort fun x y=>decide (x<=y))/\ag [] w w':=by
 obtain⟨D,bH,dj,gS,cL⟩:=h.keys;have jj:=bH.lt;have VD:SeqGives Fence.wide 2 Tryz.prog 125 #[.pointer (some ⟨w.heap.size,0,none⟩)] encZ (fun ss=>ss.Perm (intKeys D)) (Maps.size D) (w.alloc (.cells #[.map (some b)] 97)) :=
  AnyZI.keys_gives (ρ:=Tryz.yB) { Tryz.Uh with } Fence.wide _ trivial rfl (by omega) w.heap.size b n D _ (by simp) (by simp) (by
   obtain⟨es,clock,hb,Ft,hs,hD⟩:=bH;exact⟨es,clock,(Below.heap_alloc _ _ b jj).trans hb,Ft,hs,hD⟩)
 have cS:=AnyZI.sorted_in Tryz.Pk Fence.wide 5 trivial trivial trivial trivial rfl (by omega) (MH _) (enters_of Tryz.func59 (by kernel_rfl) rfl) 125 #[.pointer (some ⟨w.heap.size,0,none⟩)] trivial (enters_of Tryz.func125 (by kernel_rfl) rfl) _ _ (show Maps.size D<=maxLen by unfold maxLen;omega) (by omega) _ VD;refine ((callsIn_wide (n:=5)).1 cS).mono ?_;rintro e w' ⟨v,ss,rfl,hS,aJ,-,hb⟩;have dW:ss.Perm ks:=hS.trans ((List.perm_ext_iff_of_nodup gS hks).2 fun x=>by grind);have Ce:(ss.mergeSort fun x y=>decide (x<=y))=ks.mergeSort fun x y=>decide (x<=y):=mergeSort_of_perm_i dW;have hlen:ss.length=(ks.mergeSort fun x y=>decide (x<=y)).length:=by rw[dW.length_eq,(Qb _ _).length_eq]
 rw[Ce] at aJ;have hc:ag [] w (w.alloc (.cells #[.map (some b)] 97)):=(ag.refl _ _).alloc _;refine⟨v,rfl,⟨?_,fun x hx=>?_,?_⟩,hc.t (ag.mL hb (Nat.le_refl _))⟩
 ·rw[hlen] at aJ
  exact jm aJ hc.size
 ·exact ((hm x).1 ((Qb _ _).mem_iff.1 hx)).1
 have h1:(intKeys D).length=Maps.size D:=by
  obtain⟨es,rfl,-⟩:=bH.entries bI;show (es.map _).length=es.length;simp
 have:=hS.length_eq;omega
end Go.Proofs.YtoiflofhcmjpoaaGreat
namespace Go.Proofs.YtoiflofhcmjpoaaGreat.Plain
theorem Db {P:List Int->Prop} {l:List Int} {bl:List (List Int)} (h:∀ m∈bl,P m) (hl:P l):∀ m∈lj l bl,P m:=fun m hm=>by
 unfold lj at hm;split at hm
 ·obtain⟨k,hk,rfl⟩:=Qc.1 hm
  split
  ·exact hl
  exact h k hk
 rcases List.mem_append.1 hm with q | q
 ·exact h m q
 rw[List.mem_singleton.1 q];exact hl
def dC (s:dI):Prop:=∀ l∈s.bl,l.Pairwise (·<=·)
theorem LX (l:List Int):(Gt l).Pairwise (·<=·):=by
 unfold Gt;have:=List.pairwise_mergeSort (le:=fun x y:Int=>decide (x<=y)) (fun a b c h1 h2=>by grind) (fun a b=>by grind) l
 grind
theorem dC.take {s:dI} (h:dC s) (e:Int):dC (s.take e):=Db h (LX _)
theorem dC.lay {s:dI} (h:dC s) (e:Int):dC (s.lay e):=Db h (by simp)
theorem dC.step {g:Gr} {go:Int->Int->dI->dI} (hgo:∀ v via s,dC s->dC (go v via s)) {v via d:Int} {s:dI} (h:dC s):dC (fV go g v via s d):=by
 unfold fV;split
 ·exact h.lay _
 split
 ·exact h
 split
 ·have h1:dC (go (g.head d) (d / 2) (s.push (d / 2))):=hgo _ _ _ h
  unfold dI.back;split
  ·exact dC.take (s:=dI.lower _ _ _) h1 _
  exact h1
 split
 ·exact h
 exact h
theorem dC.visit {g:Gr} {p:Pt}:∀ (n:Nat) (v via:Int) (s:dI),dC s->dC (visit g p n v via s)
 | 0,_,_,_,h=>h
 | n+1,v,via,s,h=>by
  have hf:∀ (D:List Int) (t:dI),dC t->dC (D.foldl (fV (Plain.visit g p n) g v via) t):=by
   intro D
   induction D with
   | nil=>intro t ht;exact ht
   | cons d D ih=>intro t ht;exact ih _ (ht.step (dC.visit n))
  exact hf _ _ h
theorem FZ (g:Gr) (p:Pt):dC (findAll g p):=by
 have hf:∀ (l:List Int) (t:dI),dC t->dC (kO g p p.v.length l t):=by
  intro l
  induction l with
  | nil=>intro t ht;exact ht
  | cons v l ih =>
   all_goals grind [kO,dC.visit]
 exact hf _ _ (by intro l h;cases h)
def kq (bl:List (List Int)):List Int:=bl.map fun l=>l.getD 0 0
def jC (g:Gr) (p:Pt):List Int:=(kq (findAll g p).bl).mergeSort fun x y=>decide (x<=y)
def EN (bl:List (List Int)) (r:Int):List Int:=(bl.find? fun l=>decide (l.getD 0 0=r)).getD []
theorem j':∀ {bl:List (List Int)},bl.flatten.Nodup->(∀ l∈bl,l≠[])->(kq bl).Nodup
 | [],_,_=>List.nodup_nil
 | l :: bl,h,hn=>by
  rw[Qf,List.nodup_append] at h;show ((l.getD 0 0) :: kq bl).Nodup;rw[List.nodup_cons];refine⟨fun q=>?_,j' h.2.1 fun m hm=>hn m (Qd _ hm)⟩;obtain⟨m,hm,e⟩:=Qc.1 q;have h1:∀ k:List Int,k≠[]->k.getD 0 0∈k:=fun k hk=>by
   cases k with
   | nil=>exact absurd rfl hk
   | cons x k=>simp
  exact h.2.2 _ (h1 l (hn l (by simp))) _ (Qh.2 ⟨m,hm,h1 m (hn m (Qd _ hm))⟩) e.symm
theorem L3 {bl:List (List Int)} {r:Int} (h:r∈kq bl):EN bl r∈bl/\(EN bl r).getD 0 0=r:=by
 obtain⟨l,hl,e⟩:=Qc.1 h;unfold EN;cases hf:bl.find? fun l=>decide (l.getD 0 0=r) with
 | none =>
  grind
 | some m=>exact⟨List.mem_of_find?_eq_some hf,by grind⟩
theorem JQ {g:Gr} {p:Pt} {r:Int}:r∈jC g p↔r∈kq (findAll g p).bl:=(Qb _ _).mem_iff
theorem yC (g:Gr) (p:Pt):(jC g p).length=(findAll g p).bl.length:=by
 unfold jC;rw[(Qb _ _).length_eq];simp[kq]
theorem AS {g:Gr} {p:Pt} (hp:aB g p):(findAll g p).bl.length<=p.e.length/\∀ l∈(findAll g p).bl,l.length<=p.e.length/\∀ e∈l,e∈p.e:=by
 obtain⟨h1,-⟩:=tt hp;have h2:=mI hp;have h3:∀ {bl:List (List Int)},(∀ l∈bl,l≠[])->bl.length<=bl.flatten.length:=by
  intro bl
  induction bl with
  | nil=>intro _;simp
  | cons l bl ih =>
   intro h;have:=ih fun m hm=>h m (Qd _ hm);have:=List.length_pos_iff.2 (h l (by simp))
   grind
 refine⟨by have:=h3 h1.cH.Du;rw[h2.length_eq] at this;exact this,fun l hl=>⟨?_,fun e he=>h2.mem_iff.1 (Qh.2 ⟨l,hl,he⟩)⟩⟩;rw[<-h2.length_eq];exact (List.sublist_flatten_of_mem hl).length_le
end Go.Proofs.YtoiflofhcmjpoaaGreat.Plain
namespace Go.Proofs.YtoiflofhcmjpoaaGreat
open Go.RowKit Go.Maps
namespace Plain
def zM (g:Gr) (p:Pt) (r:Int):List Int:=(l5 g (EN (findAll g p).bl r)).v
def wM (g:Gr) (p:Pt) (r:Int):List Int:=EN (findAll g p).bl r
end Plain
set_option maxRecDepth 100000 in
set_option maxHeartbeats 4000000 in
theorem EL (vg vp:Value) (g:Plain.Gr) (p:Plain.Pt) (w:World) (qM:p.v.length<=100000) (hg:dJ w vg g) (hp:fL w vp p) :
  Calls Tryz.prog 37 #[vg,vp] w fun e w'=>∃ ov,e=.returned (.tuple #[ov,.int .i64 (p.err g)])/\(p.err g≠0->ov=.slice none 0 0) /\
   (p.err g=0->∃ xs,bu w' w.heap.size 27 2 ov (Plain.jC g p).length xs (nZ (Plain.zM g p) (Plain.wM g p) (Plain.jC g p)))/\ag [] w w':=by
 obtain⟨eo,cap,ao,ac,bo,bc,rfl,rfl,HG,HP,hm,DA,sQ,Bq,uE,S4,Ko,b8,dh⟩:=lN hg hp;clear hg hp;obtain⟨x0,x1,y0,y1,dj⟩:=dh.out _ (ag.refl _ _)
 go_enter Tryz.func37,Tryz.ntmps37
 go_wp2_with fail
 obtain⟨w1,qK⟩:∃ w1,((w.alloc (.cells #[.int .i64 g.n,.slice eo g.e.length cap] 24)).alloc (.cells #[.slice ao p.v.length ac,.slice bo p.e.length bc] 27))=w1:=⟨_,rfl⟩;rw[qK] at b8 dh ⊢;clear qK x0 x1 y0 y1 dj;refine (eW _ _ g p _ (by omega) (HG.out.fresh b8.out) (HP.out.fresh b8.out)).mono ?_;rintro e w2 ⟨rfl,bA⟩;have cB:=lh (b8.out.tr bA);have xd:=lh bA;obtain⟨x0,x1,y0,y1,dj⟩:=dh.out _ bA;clear bA;by_cases hr:p.err g=0
 ·have HR:=lh hr
  rw[hr];have jN:=lh (Plain.Pt.ay hr);have iE:=lh (Plain.Pt.aA hr).1;obtain⟨XP,hz5,hz6,-⟩:=Plain.Gr.aA (Plain.Pt.aA hr).1;have oF:=lh (show p.e.length<=1024 by have:=eT (Plain.Pt.aA hr).2.2.1;omega);obtain⟨N,hN⟩:∃ N:Nat,g.n=N:=⟨g.n.toNat,by omega⟩;have HN:=lh hN;clear XP hz5 hz6 hr hN
  go_wp2_with fail
  have hf:=J5 _ _ g p w2 N HN.out HR.out (HG.out.fresh cB.out) (HP.out.fresh cB.out);have Kx:=lh hf;clear hf;refine Kx.out.mono ?_;rintro e w3 ⟨k,ev,m,F,rfl,-,sV,mY,hk,hkw,Uj,cT⟩;have vf:=lh sV;have cU:=lh (xd.out.tr cT);obtain⟨x0,x1,y0,y1,dj⟩:=dh.out _ cU.out;obtain⟨-,-,-,-,-,-,-,a7⟩:=sV.eight;have VU:=lh (Plain.tt jN.out).1;have wC:=lh (show m<=100000 by omega);clear sV mY Uj hk cT Kx;have Rx:=lh (show ∀ x,x∈Plain.kq (Plain.findAll g p).bl↔aU x/\(F x).isSome=true from fun x=>by
   constructor
   ·intro hx
    obtain⟨l,hl,rfl⟩:=Qc.1 hx;obtain⟨v,h1,h2,-⟩:=vf.out.rel.1 l hl;have bh:=VU.out.cH.Du l hl;have hm:l.getD 0 0∈l:=by
     grind
    exact⟨h2.2.1 _ hm,by grind⟩
   rintro ⟨-,hs⟩;obtain⟨v,hv⟩:=Option.isSome_iff_exists.1 hs;obtain⟨l,hl,e⟩:=vf.out.rel.2 x v hv;exact Qc.2 ⟨l,hl,e⟩)
  go_wp2_with fail
  refine (MK k.mp w3).mono ?_;rintro e w4 ⟨rfl,rfl⟩;have wH:=Gg k.mp m F (Plain.kq (Plain.findAll g p).bl) w3 vf.out.map (by have:=wC.out;omega) (Plain.j' VU.out.nd VU.out.cH.Du) Rx.out;have tC:=lh wH;clear wH x0 x1 y0 y1 dj a7
  go_wp2_with fail
  refine tC.out.mono ?_;rintro e w5 ⟨v5,rfl,pf,eO⟩;have pf:aj w5 w3.heap.size v5 (Plain.jC g p):=pf;obtain⟨o5,c5,rfl⟩:=pf.shape;have uk:=lh pf;have ga:=lh eO;have HKL:=lh (show (Plain.jC g p).length<=1024 by rw[Plain.yC];have:=(Plain.AS jN.out).1;have:=oF.out;omega);clear pf eO tC Rx;obtain⟨K,hK⟩:∃ K,Plain.jC g p=K:=⟨_,rfl⟩;have HK:=lh hK;rw[hK] at uk HKL ⊢;clear hK;have wZ:=lh (show w.heap.size<=w5.heap.size from ((b8.out.tr cU.out).tr ga.out).size)
  go_wp2_with fail
  go_loopw [8,10,27] (fun ov _ iv wr=>∃ i:Nat,i<=K.length/\iv=.int .i64 i/\∃ xs,bu wr w5.heap.size 27 2 ov i xs (nZ (Plain.zM g p) (Plain.wM g p) (K.take i))/\ag [] w5 wr) (fun _ _ iv _=>K.length - (intOf iv).toNat)
  case atStart=>exact⟨0,Nat.zero_le _,rfl,[],bu.nil _ _ _ _,ag.refl _ _⟩
  case round =>
   obtain⟨i,hi,rfl,xs,bh,hc⟩:=hrel;have jg:=lh bh;have HC:=lh hc;have Lt:=lh (ga.out.tr hc);obtain⟨x0,x1,y0,y1,dj⟩:=dh.out wr (cU.out.tr Lt.out);obtain⟨uo,uc,rfl⟩:=bh.shape;have nS:=HKL.out;clear bh hc;by_cases aL:i<K.length
   ·obtain⟨kb,rfl,Xi⟩:=uk.out.some (by omega)
    have ck:=HC.out.dp (Xi i aL);have TW:K.getD i 0∈Plain.kq (Plain.findAll g p).bl:=by rw[<-Plain.JQ,HK.out];exact Plain.aQ aL
    have nL:=lh (show K.take (i+1)=K.take i++[K.getD i 0] by rw[List.take_succ_eq_append_getElem aL];simp[List.getD,aL]);have M0:aU (K.getD i 0):=uk.out.2.1 _ (Plain.aQ aL);obtain⟨r,hr⟩:∃ r,K.getD i 0=r:=⟨_,rfl⟩;rw[hr] at ck TW nL M0;obtain⟨fz,ff⟩:=Plain.L3 TW;obtain⟨v,hv1,OQ,-⟩:=vf.out.rel.1 _ fz;rw[ff] at hv1;have wE:=(Plain.AS jN.out).2 _ fz;obtain⟨L,hL⟩:∃ L,Plain.EN (Plain.findAll g p).bl r=L:=⟨_,rfl⟩;rw[hL] at OQ wE;have vy:=lh (show Plain.wM g p r=L from hL);have HLV:=lh (show Plain.zM g p r=(Plain.l5 g L).v by grind [Plain.zM]);have Rf:=lh ((OQ.aD Lt.out (by simp)).ints);have Uz:=lh wE;have Uk:=(vf.out.map.aD Lt.out (by simp)).vY M0;rw[hv1,Option.getD_some] at Uk;obtain⟨vo,vc,rfl⟩:=OQ.shape;clear Xi hr TW fz ff hv1 OQ wE hL
    go_wp2_with fail
    refine (KA _ _ g L _ iE.out (by have:=Uz.out.1;have:=oF.out;omega) (fun e he=>Plain.Pt.tj HR.out (Uz.out.2 e he)) (HG.out.fresh ((b8.out.tr cU.out).tr Lt.out)) Rf.out).mono ?_;rintro e w6 ⟨v1,v2,rfl,h1,h2,iY,hc6⟩;have L5:=lh (jg.out.fresh hc6);have H1:=lh (h1.base HC.out.size);have H2:=lh (h2.base HC.out.size);have H1L:=lh h1.low;have Zw:=lh h2.low;have TH:=lh iY;have ky:=lh (HC.out.tr hc6);have zC:=lh (show aE v1=v1.ownBlock.toList/\aE v2=v2.ownBlock.toList from⟨h1.aE,h2.aE⟩);obtain⟨o1,c1,rfl⟩:=h1.shape;obtain⟨o2,c2,rfl⟩:=h2.shape;have HSW:=lh (show wr.heap.size<=w6.heap.size from hc6.size);have Ri:=lh (show ∀ u∈(#[Qa o1 (Plain.l5 g L).v.length c1,Qa o2 L.length c2]:Array Value).toList,u.oneCell'=true from fun u hu=>by
     simp at hu;rcases hu with rfl | rfl <;> rfl)
    have HI:=lh (show i<68719476736 by grind);clear h1 h2 iY hc6 x0 x1 y0 y1 dj Uk ck
    go_wp2_with (at_builtin;refine oK By rfl _ _ rfl (v:=.slice uo i uc) rfl rfl rfl L5.out.out ky.out.size rfl Ri.out HI.out ?_;intro g4 aav w9 r9 c9 l9;have R9:=lh r9;have C9:=lh c9;clear r9 c9 l9)
    go_roundw
    case rel =>
     have iu:=L5.out.add (us:=[.slice o1 (Plain.l5 g L).v.length c1,.slice o2 L.length c2]) (ds:=[.row (Plain.l5 g L).v,.row L]) (by decide) rfl rfl (fun j d hj=>by
      rcases j with _ | _ | j
      ·simp at hj;subst hj;exact H1.out
      ·simp at hj;subst hj;exact H2.out
      ·simp at hj) (fun a b ha hb bh=>by
      have h12:(Qa o1 (Plain.l5 g L).v.length c1).ownBlock=none\/(Qa o1 (Plain.l5 g L).v.length c1).ownBlock≠(Qa o2 L.length c2).ownBlock:=by
       cases hq:(Qa o1 (Plain.l5 g L).v.length c1).ownBlock with
       | none=>exact Or.inl rfl
       | some b=>exact Or.inr fun e=>TH.out b (by rw[zC.out.1,hq];simp) (by rw[zC.out.2,<-e];simp)
      simp at ha hb;rcases a with _ | _ | a
      ·rcases b with _ | _ | b
       ·exact absurd rfl bh
       ·exact h12
       omega
      ·rcases b with _ | _ | b
       ·cases hq:(Qa o2 L.length c2).ownBlock with
        | none=>exact Or.inl hq
        | some b =>
         refine Or.inr fun e=>?_;have e:(Qa o2 L.length c2).ownBlock=(Qa o1 (Plain.l5 g L).v.length c1).ownBlock:=e;exact TH.out b (by rw[zC.out.1,<-e,hq];simp) (by rw[zC.out.2,hq];simp)
       ·exact absurd rfl bh
       omega
      ·omega) (fun a b q ha hb hq e=>by
      have:=(jg.out.kind ha hq).2.1;simp at hb;rcases b with _ | _ | b
      ·have e:(Qa o1 (Plain.l5 g L).v.length c1).ownBlock=some q:=e
       have:=(H1L.out q (by rw[e];simp)).1;omega
      ·have e:(Qa o2 L.length c2).ownBlock=some q:=e
       have:=(Zw.out q (by rw[e];simp)).1;omega
      omega) R9.out C9.out
     refine⟨i+1,by omega,by go_num,_,by rw[nL.out,CM,vy.out,HLV.out];exact iu,ky.out.trans C9.out fun j hj=>Or.inr (L5.out.out.lt j (by grind)).1⟩
    case measure=>simp[intOf];omega
   have e:i=K.length:=by omega
   subst e;rw[List.take_length] at jg;clear x0 x1 y0 y1 dj hi aL;go_wp2;refine bodyPost_ret (v:=.tuple #[.slice uo K.length uc,.int .i64 0]) (by simp[results,Tryz.results37,go_sem]) rfl ?_;exact⟨_,by rw[HR.out],fun h=>absurd HR.out h,fun _=>⟨xs,by rw[HK.out];exact jg.out.base wZ.out⟩,(b8.out.tr cU.out).tr Lt.out⟩
 obtain⟨er,mf⟩:∃ er,p.err g=er:=⟨_,rfl⟩;rw[mf] at hr ⊢;have HR:=lh hr;have ze:=lh mf;have bz:(er != 0)=true:=by simp only[bne_iff_ne];exact hr
 clear hr mf x0 x1 y0 y1 dj;go_wp2;refine bodyPost_ret (v:=.tuple #[.slice none 0 0,.int .i64 er]) (by simp[results,Tryz.results37,go_sem]) rfl ?_;exact⟨_,by rw[ze.out],fun _=>rfl,fun h=>absurd (ze.out.symm.trans h) HR.out,cB.out⟩
namespace Plain
noncomputable def iw (g:Gr) (p:Pt):Bool:=@decide (p.err g=0/\cQ g p) (Classical.propDecidable _)
theorem fy {g:Gr} {p:Pt}:iw g p=true↔p.err g=0/\cQ g p:=by grind [iw]
theorem Io {g:Gr} {E:List Int} {v:Int}:v∈fW g E↔∃ e∈E,(g.at e).1=v\/(g.at e).2=v:=by
 all_goals grind [fW]
theorem Iy {g:Gr} {p:Pt} (h:p.err g=0):((jC g p).length=1/\zM g p ((jC g p).getD 0 0)=p.v/\wM g p ((jC g p).getD 0 0)=p.e)↔cQ g p:=by
 have hp:=Pt.ay h;obtain⟨-,hv,he,-⟩:=Pt.aA h;have hV:p.v.Pairwise (·<·):=bM hv;have hE:p.e.Pairwise (·<·):=bM he;rw[<-yR hp,yC];refine and_congr_right fun h1=>?_;obtain⟨l,hB⟩:=List.length_eq_one_iff.1 h1;have hk:jC g p=[l.getD 0 0]:=by unfold jC kq;rw[hB];simp
 have jj:wM g p (l.getD 0 0)=l:=by unfold wM EN;rw[hB];simp
 have dW:=mI hp;rw[hB,Qf,List.flatten_nil,List.append_nil] at dW;have ac8:l.Pairwise (·<=·):=FZ g p l (by grind);have hle:l=p.e:=by
  have hn:l.Nodup:=dW.nodup_iff.2 hp.en;have aL:l.Pairwise (·<·):=by
   have:=ac8.and hn;exact this.imp fun {a b} k=>by obtain⟨k1,k2⟩:=k;exact Int.lt_iff_le_and_ne.2 ⟨k1,k2⟩
  grind [mB]
 have TU:zM g p (l.getD 0 0)=tidy (fW g p.e):=by
  show tidy (fW g (wM g p (l.getD 0 0)))=_;rw[jj,hle]
 have h0:(jC g p).getD 0 0=l.getD 0 0:=by rw[hk];rfl
 rw[h0,TU,jj,hle];have hds:∀ v,v∈fW g p.e↔∃ d∈p.ah,g.tail d=v:=fun v=>by
  rw[Io];constructor
  ·rintro ⟨e,he,q⟩
   have h2:=et g e;have hd:2*e∈p.ah:=aw.2 (by rwa[show 2*e / 2=e by omega]);rcases q with q | q
   ·exact⟨2*e,hd,by rw[h2.1,q]⟩
   exact⟨aT (2*e),bQ hd,by rw[aS,h2.2,q]⟩
  all_goals grind [aw,gM]
 constructor
 all_goals grind [zb,mB,aB.aO]
end Plain
set_option maxRecDepth 100000 in
set_option maxHeartbeats 4000000 in
theorem tI (vg vp:Value) (g:Plain.Gr) (p:Plain.Pt) (w:World) (qM:p.v.length<=100000) (hg:dJ w vg g) (hp:fL w vp p) :
  Calls Tryz.prog 65 #[vg,vp] w fun e w'=>e=.returned (.bool (Plain.iw g p))/\ag [] w w':=by
 obtain⟨eo,cap,ao,ac,bo,bc,rfl,rfl,HG,HP,hm,DA,sQ,Bq,uE,S4,Ko,b8,dh⟩:=lN hg hp;clear hg hp;obtain⟨x0,x1,y0,y1,dj⟩:=dh.out _ (ag.refl _ _)
 go_enter Tryz.func65,Tryz.ntmps65
 go_wp2_with fail
 obtain⟨w1,qK⟩:∃ w1,((w.alloc (.cells #[.int .i64 g.n,.slice eo g.e.length cap] 24)).alloc (.cells #[.slice ao p.v.length ac,.slice bo p.e.length bc] 27))=w1:=⟨_,rfl⟩;rw[qK] at b8 dh ⊢;clear qK x0 x1 y0 y1 dj;refine (EL _ _ g p _ qM (HG.out.fresh b8.out) (HP.out.fresh b8.out)).mono ?_;rintro e w2 ⟨ov,rfl,oe,hyes,bA⟩;have cB:=lh (b8.out.tr bA);obtain⟨x0,x1,y0,y1,dj⟩:=dh.out _ bA;clear bA;by_cases hr:p.err g=0
 ·obtain⟨xs,bh⟩:=hyes hr
  have jg:=lh bh;have HR:=lh hr;have zY:=lh (Plain.Iy hr);obtain⟨uo,uc,rfl⟩:=bh.shape;obtain⟨K,hK⟩:∃ K,Plain.jC g p=K:=⟨_,rfl⟩;rw[hr];rw[hK] at jg zY ⊢;clear bh oe hyes hr hK;by_cases h1:K.length=1
  ·obtain⟨gb,gc,KC⟩:=jg.out.some (by omega)
   simp only[Qa.injEq] at KC;obtain⟨rfl,-,-⟩:=KC;have c0:=jg.out.cell (k:=0) (by rw[jg.out.cells];omega);have c1:=jg.out.cell (k:=1) (by rw[jg.out.cells];omega);have r0:=jg.out.row (qj (Plain.zM g p) (Plain.wM g p) K 0 (by omega));have r1:=jg.out.row (ti (Plain.zM g p) (Plain.wM g p) K 0 (by omega));obtain⟨V,hV⟩:∃ V,Plain.zM g p (K.getD 0 0)=V:=⟨_,rfl⟩;obtain⟨E,hE⟩:∃ E,Plain.wM g p (K.getD 0 0)=E:=⟨_,rfl⟩;rw[hV] at r0;rw[hE] at r1;rw[hV,hE] at zY;obtain⟨u0,YM⟩:∃ u0,xs.getD 0 undef=u0:=⟨_,rfl⟩;obtain⟨u1,Ex⟩:∃ u1,xs.getD 1 undef=u1:=⟨_,rfl⟩;have r1':aj w2 w1.heap.size (xs.getD 1 undef) E:=r1;have r0':aj w2 w1.heap.size (xs.getD 0 undef) V:=r0;rw[YM] at c0 r0';rw[Ex] at c1 r1';have HPT:=lh (show fL w2 (.agg #[u0,u1]) ⟨V,E⟩ from⟨u0,u1,rfl,r0'.ints,r1'.ints⟩);have pZ:=lh (HP.out.fresh cB.out);have bl:((K.length:Int)==1)=true:=by rw[h1];rfl
   have Z7:0<K.length:=by omega
   have LN:=lh (show Plain.iw g p=(decide (V=p.v)&&decide (E=p.e)) by
    rw[Bool.eq_iff_iff,Plain.fy,Bool.and_eq_true,decide_eq_true_iff,decide_eq_true_iff,<-zY.out];exact⟨fun k=>k.2.2,fun k=>⟨HR.out,h1,k⟩⟩)
   have Pa:=lh h1;clear r0 r1 r0' r1' hV hE YM Ex x0 x1 h1 jg
   go_wp2_with fail
   have aW:ag [] w2 w2.drew:=(ag.refl [] w2).drew;refine ar (ag [] w2) [0,1,2,3,4,5,6,7,8,9,10,11,13,14] (Way.line [0,1,2,3,4,5,6,7,8,9,10,11,12,13,14] .done) (by kernel_rfl) (by kernel_rfl) ?_;simp only[Way.line]
   repeat (refine ai (v:=?_) rfl (by rfl) (by rfl) (fun _ _ _ h=>h) aW (fun w' aI=>?_) ?_;rotate_left;(focus (have gB:=aI.c c0;have gQ:=aI.c c1;have np:=aI.c y0;have Hg:=aI.c y1;clear aI;go_simp;try with_reducible rfl));simp only[Qe,Z1,Z2,Z3,Z4,Z5,Z6])
   refine au rfl (by rfl) (by rfl) (fun K hK=>?_);go_simp;refine (JE _ _ ⟨V,E⟩ p _ (HPT.out.fresh aW) (pZ.out.fresh aW)).mono ?_;rintro e w3 ⟨rfl,qU⟩;have bF:=aW.t qU;clear aW qU;have aW:=bF;clear bF;refine hK.out _ _ (fun _=>aW) ?_;clear hK K
   try simp only
   repeat (refine ai (v:=?_) rfl (by rfl) (by rfl) (fun _ _ _ h=>h) aW (fun w' aI=>?_) ?_;rotate_left;(focus (skip;clear aI;go_simp;try with_reducible rfl));simp only[Qe,Z1,Z2,Z3,Z4,Z5,Z6])
   refine aC ?_;have cU:=lh (cB.out.tr aW);clear aW c0 c1 y0 y1 dj;generalize w3=w4 at *;go_wp2;go_ret;exact⟨bm (by show _=Plain.iw g p;rw[LN.out]),cU.out⟩
  have bl:((K.length:Int)==1)=false:=by rw[beq_eq_false_iff_ne];omega
  have LN:=lh (show Plain.iw g p=false by
   rw[Bool.eq_false_iff];intro k;exact h1 (zY.out.2 (Plain.fy.1 k).2).1)
  clear x0 x1 h1
  go_wp2_with fail
  have aW:ag [] w2 w2.drew:=(ag.refl [] w2).drew;refine ar (ag [] w2) [0,1,2,3,4,5,6,7,8,9,10,11,13,14] (Way.line [0,1,2,3,4,5,6,7,8,9,10,11,12,13,14] .done) (by kernel_rfl) (by kernel_rfl) ?_;simp only[Way.line]
  repeat
   first
    | (refine dA rfl (by rfl) (by rfl) (fun _ _ _ h=>h) aW ?_;simp only[Qe,Z1,Z2,Z3,Z4,Z5,Z6])
    | (refine ai (v:=?_) rfl (by rfl) (by rfl) (fun _ _ _ h=>h) aW (fun w' aI=>?_) ?_;rotate_left;(focus (have gB:=aI.c y0;have gQ:=aI.c y1;clear aI;go_simp;try with_reducible rfl));simp only[Qe,Z1,Z2,Z3,Z4,Z5,Z6])
    | (refine cV rfl (by rfl) (by rfl) aW ?_;simp only[Qe,Z1,Z2,Z3,Z4,Z5,Z6])
  refine aC ?_;have cU:=lh (cB.out.tr aW);clear aW y0 y1 dj;generalize w2.drew=w4 at *;go_wp2;go_ret;exact⟨bm (by show _=Plain.iw g p;rw[LN.out]),cU.out⟩
 have LN:=lh (show Plain.iw g p=false by
  grind [Plain.fy])
 obtain rfl:=oe hr;obtain⟨er,mf⟩:∃ er,p.err g=er:=⟨_,rfl⟩;rw[mf] at hr ⊢;have bz:(er==0)=false:=by rw[beq_eq_false_iff_ne];exact hr
 clear hr mf x0 x1 oe hyes
 go_wp2_with fail
 have aW:ag [] w2 w2.drew:=(ag.refl [] w2).drew;refine ar (ag [] w2) [0,1,2,3,4,5,6,7,8,9,10,11,13,14] (Way.line [0,1,2,3,4,5,6,7,8,9,10,11,12,13,14] .done) (by kernel_rfl) (by kernel_rfl) ?_;simp only[Way.line]
 repeat
  first
   | (refine dA rfl (by rfl) (by rfl) (fun _ _ _ h=>h) aW ?_;simp only[Qe,Z1,Z2,Z3,Z4,Z5,Z6])
   | (refine ai (v:=?_) rfl (by rfl) (by rfl) (fun _ _ _ h=>h) aW (fun w' aI=>?_) ?_;rotate_left;(focus (have gB:=aI.c y0;have gQ:=aI.c y1;clear aI;go_simp;try with_reducible rfl));simp only[Qe,Z1,Z2,Z3,Z4,Z5,Z6])
   | (refine cV rfl (by rfl) (by rfl) aW ?_;simp only[Qe,Z1,Z2,Z3,Z4,Z5,Z6])
 refine aC ?_;have cU:=lh (cB.out.tr aW);clear aW y0 y1 dj;generalize w2.drew=w4 at *;go_wp2;go_ret;exact⟨bm (by show _=Plain.iw g p;rw[LN.out]),cU.out⟩
end Go.Proofs.YtoiflofhcmjpoaaGreat
