/- draw's sketch: way: contract. Conditions: a sketch's graph, drawn vertices, a scrap that lie in memory and read so. -/
import Derived.Test.YtbkjljffnkdcjaaS9DropG
namespace Go.Proofs.Ytbkjljffnkdcjaa
open Go.RowKit Go.Maps
namespace Plain
def outsJ (g:Gr) (p:Pt) (k e j:Nat) (v:Int):List Int:=outs g p k v++((List.range j).map fun i=>((2*e+i:Nat):Int)).filter fun d=>decide (g.tail d=v)
theorem outsJ_zero (g:Gr) (p:Pt) (k e:Nat):outsJ g p k e 0=outs g p k:=by funext v;simp[outsJ]
theorem outsJ_succ (g:Gr) (p:Pt) (k e j:Nat):outsJ g p k e (j+1)=fun v=>if v=g.tail ((2*e+j:Nat):Int) then outsJ g p k e j (g.tail ((2*e+j:Nat):Int))++[((2*e+j:Nat):Int)] else outsJ g p k e j v:=by
 funext v
 unfold outsJ
 rw[List.range_succ,List.map_append,List.filter_append,←List.append_assoc]
 by_cases h:v=g.tail ((2*e+j:Nat):Int)
 ·rw[if_pos h,←h]
  congr 1
  simp only[List.map_cons,List.map_nil,List.filter_cons,List.filter_nil,h,decide_true,if_true]
 rw[if_neg h]
 have h2:decide (g.tail ((2*e+j:Nat):Int)=v)=false:=decide_eq_false fun q=>h q.symm
 simp only[List.map_cons,List.map_nil,List.filter_cons,List.filter_nil,h2,Bool.false_eq_true,if_false,List.append_nil]
theorem outsJ_two {g:Gr} {p:Pt} {k e:Nat} (hk:k<p.e.length) (he:p.e.getD k 0=(e:Int)):outsJ g p k e 2=outs g p (k+1):=by
 funext v
 have e1:p.e.take (k+1)=p.e.take k++[(e:Int)]:=by
  rw[List.take_succ_eq_append_getElem hk,←he]
  simp[List.getD,hk]
 unfold outsJ outs Pt.darts
 rw[e1,List.flatMap_append,List.filter_append]
 congr 1
theorem outsJ_len (g:Gr) (p:Pt) (k e j:Nat) (v:Int):(outsJ g p k e j v).length≤2*k+j:=by
 unfold outsJ
 rw[List.length_append]
 have h1:=outs_len g p k v
 have h2:=List.length_filter_le (fun d=>decide (g.tail d=v)) ((List.range j).map fun i=>((2*e+i:Nat):Int))
 rw[List.length_map,List.length_range] at h2
 omega
theorem way_fin {g:Gr} {on:Int→Bool} {p:Pt} {a:Int} (hp:PartOk g p) (hd0:∀ d∈p.darts,0≤d) :
  (∀ z c,wayOut g on p (p.v.length+2) (fun y=>if y=a then some (-1) else none) [a]=(some z,c)→∃ l,wayOf g on p a=l∧Trc g c a z l∧c a=some (-1)∧l.length≤p.v.length∧∀ d∈l,d∈p.darts) ∧
  (∀ c,wayOut g on p (p.v.length+2) (fun y=>if y=a then some (-1) else none) [a]=(none,c)→wayOf g on p a=[]):=by
 have hw:=wayOut_ok (g:=g) (on:=on) (a:=a) hd0 hp.vn (fun d hd=>(hp.tail_mem hd).2) (p.v.length+2) way_start way_fuel
 refine⟨fun z c h=>?_,fun c h=>by unfold wayOf;rw[h]⟩
 rw[h] at hw
 obtain⟨w1,w2,w3,w4⟩:=hw
 obtain⟨l,l1,l2,l3⟩:=w1.trc z w2
 obtain⟨k1,k2,k3,k4⟩:=l1.link
 have hlen:l.length≤p.v.length:=by
  have:=len_le_of_sub k3 fun x hx=>by
   obtain⟨d,hd,rfl⟩:=List.mem_map.1 hx
   exact (hp.tail_mem (l2 d hd)).2
  simpa using this
 exact⟨l,by unfold wayOf;rw[h];exact l1.back w1.base _ (by omega),l1,w1.base,hlen,l2⟩
theorem drop_cons {L:List Int} {k:Nat} (hk:k<L.length):L.drop k=L.getD k 0 :: L.drop (k+1):=drop_getD hk
theorem wayIn_hit {g:Gr} {on:Int→Bool} {d:Int} {ds:List Int} {came:Came} {q:List Int} {z:Int} (h:came (g.head d)=some z):wayIn g on (d :: ds) came q=wayIn g on ds came q:=by rw[wayIn,h]
theorem wayIn_new {g:Gr} {on:Int→Bool} {d:Int} {ds:List Int} {came:Came} {q:List Int} (h:came (g.head d)=none) (ho:on (g.head d)=false):wayIn g on (d :: ds) came q=wayIn g on ds (fun y=>if y=g.head d then some d else came y) (q++[g.head d]):=by rw[wayIn,h];simp[ho]
theorem wayIn_on {g:Gr} {on:Int→Bool} {d:Int} {ds:List Int} {came:Came} {q:List Int} (h:came (g.head d)=none) (ho:on (g.head d)=true):wayIn g on (d :: ds) came q=(some (g.head d),(fun y=>if y=g.head d then some d else came y),q):=by rw[wayIn,h];simp[ho]
theorem wayOut_step {g:Gr} {on:Int→Bool} {p:Pt} {n:Nat} {u:Int} {came:Came} {q:List Int}:wayOut g on p (n+1) came (u :: q)=match wayIn g on (dartsAt g p u) came q with | (some z,c,_)=>(some z,c) | (none,c,q')=>wayOut g on p n c q':=rfl
end Plain
theorem QRow.cons {w:World} {H:Nat} {v:Value} {x:Int} {q:List Int} (h:QRow w H v (x :: q)):∃ b off cap,v=.slice (some ⟨b,off,none⟩) (q.length+1) cap∧w.cell? ⟨b,off,none⟩=some (.int .i64 x)∧q.length+1≤cap ∧
  (cap=1→QRow w H (.slice (some ⟨b,off,none⟩) q.length 0) q)∧(cap≠1→QRow w H (.slice (some ⟨b,off+1,none⟩) q.length (cap - 1)) q):=by
 obtain⟨h1,h2,h3⟩:=h
 rcases h3 with ⟨-,e⟩ | ⟨b,off,cap,cur,rfl,hg,hh,hnc,hcm,hoc,hcs⟩
 ·cases e
 have hs:∀ y∈q,I64 y:=fun y hy=>h1 y (by simp[hy])
 simp only[List.length_cons] at hnc h2
 have fin:∀ off' cap',off'+cap'≤cur.size→q.length≤cap'→cap'≤9223372036854775807→(∀ i,i<q.length→cur[off'+i]?=some (.int .i64 (q.getD i 0)))→QRow w H (.slice (some ⟨b,off',none⟩) q.length cap') q :=
  fun off' cap' k1 k2 k3 k4=>⟨hs,by omega,Or.inr ⟨b,off',cap',cur,rfl,hg,hh,k2,k3,k1,k4⟩⟩
 refine⟨b,off,cap,rfl,?_,hnc,fun hc=>?_,fun hc=>?_⟩
 ·rw[cell_of_row w b off cur _ _ hh]
  have:=hcs 0 (by simp)
  simpa using this
 ·subst hc
  exact fin off 0 (by omega) (by omega) (by omega) (fun i hi=>by omega)
 refine fin (off+1) (cap - 1) (by omega) (by omega) (by omega) (fun i hi=>?_)
 have:=hcs (i+1) (by simp;omega)
 rw[show off+1+i=off+(i+1) by omega,this]
 simp
set_option maxRecDepth 100000 in
set_option maxHeartbeats 4000000 in
theorem way_any (sb N B ob a fn:Nat) (vE v1 v2:Value) (fo:Option Addr) (fc:Nat) (g:Plain.Gr) (on:Int→Bool) (V E ends:List Int) (w:World) (hG:GrIn w sb g vE N) (hq:w.cell? ⟨sb,2,none⟩=some (.slice (some ⟨ob,0,none⟩) N N)) (hon:BitsAt w B ob N on)
  (hE:∀ e∈E,0≤e∧e<g.e.length) (hEl:E.length≤1024) (h1:IntsAt w v1 E) (h2:IntsAt w v2 ends) (he0:0<ends.length) (ha:ends.getD 0 0=a) (haN:a<N) (hP:Plain.PartOk g ⟨V,E⟩) (haV:(a:Int)∈V) :
  Calls Try.prog 34 #[.pointer (some ⟨sb,0,none⟩),.agg #[v1,v2,.slice fo fn fc]] w fun e w'=>∃ v',e=.returned v'∧RowAt w' w.heap.size v' (Plain.wayOf g on ⟨V,E⟩ a)∧Chg [] w w':=by
 have HG:=lh hG
 have HQ:=lh hq
 have HON:=lh hon
 have HE:=lh hE
 have H1:=lh h1
 have H2:=lh h2
 have HA:=lh ha
 have HP:=lh hP
 have HAV:=lh haV
 have HSM:=lh hG.small
 obtain⟨lo,lc,rfl,-,-,-⟩:=h1
 obtain⟨uo,uc,rfl,-,-,-⟩:=h2
 have hmm:=@run_makeMap Try.prog
 have HXC:=lh (show Chg [] w (w.alloc (.cells #[.slice lo E.length lc,.slice uo ends.length uc,.slice fo fn fc] 74)) from (show Chg [] w (w.alloc (.cells #[.slice lo E.length lc,.slice uo ends.length uc,.slice fo fn fc] 74)) from ((Chg.refl [] w).alloc _)))
 have qbx0:=heap_alloc_new w (.cells #[.slice lo E.length lc,.slice uo ends.length uc,.slice fo fn fc] 74)
 have HX:=lh (fun (w2:World) (hbx:Chg [] (w.alloc (.cells #[.slice lo E.length lc,.slice uo ends.length uc,.slice fo fn fc] 74)) w2)=>(⟨hbx.cell ((cell_of_row _ _ 0 _ _ _ qbx0).trans rfl) (by simp),hbx.cell ((cell_of_row _ _ 1 _ _ _ qbx0).trans rfl) (by simp),hbx.cell ((cell_of_row _ _ 2 _ _ _ qbx0).trans rfl) (by simp),by have hz:=hbx.size;simpa using hz⟩:w2.cell? ⟨w.heap.size,0,none⟩=some (.slice lo E.length lc)∧w2.cell? ⟨w.heap.size,1,none⟩=some (.slice uo ends.length uc)∧w2.cell? ⟨w.heap.size,2,none⟩=some (.slice fo fn fc)∧w.heap.size+1≤w2.heap.size))
 clear qbx0
 have HXZ:=lh (show (w.alloc (.cells #[.slice lo E.length lc,.slice uo ends.length uc,.slice fo fn fc] 74)).heap.size=w.heap.size+1 by simp)
 obtain⟨x0,x1,-,hsz⟩:=HX.out _ (Chg.refl _ _)
 clear hG hq hon hE ha hP haV
 go_enter Try.func34,Try.ntmps34
 go_wp2
 clear hmm x0 x1
 have HM:=lh (SMap.made (w.alloc (.cells #[.slice lo E.length lc,.slice uo ends.length uc,.slice fo fn fc] 74)))
 have hz:(w.alloc (.cells #[.slice lo E.length lc,.slice uo ends.length uc,.slice fo fn fc] 74)).heap.size=w.heap.size+1:=by simp
 rw[hz] at HM
 have HC1:=lh ((Chg.refl [] (w.alloc (.cells #[.slice lo E.length lc,.slice uo ends.length uc,.slice fo fn fc] 74))).alloc (.map #[] 0))
 generalize w.alloc (.cells #[.slice lo E.length lc,.slice uo ends.length uc,.slice fo fn fc] 74)=w1 at *
 obtain⟨mb,hmb⟩:∃ mb,w.heap.size+1=mb:=⟨_,rfl⟩
 have HMB:=lh hmb
 have HZ1:=lh hz
 rw[hmb] at HM ⊢
 clear hz hmb hsz
 go_loopw [7,8,9,22] (fun _ _ _ c wr=>∃ k:Nat,k≤E.length∧c=.int .i64 k∧SMap wr mb (2*k) (Plain.outs g ⟨V,E⟩ k)∧Chg [] w1 wr) (fun _ _ _ c _=>E.length - (intOf c).toNat)
 case atStart=>exact⟨0,Nat.zero_le _,rfl,by rw[Plain.outs_zero];exact HM.out,HC1.out⟩
 case round =>
  obtain⟨k,hk,rfl,hsm,hc⟩:=hrel
  have HS:=lh hsm
  have HC:=lh hc
  clear hsm hc HM HC1
  by_cases hlt:k<E.length
  ·obtain⟨rb,roff,rfl,rc⟩:=IntsAt.cellAt H1.out hlt
   have rcell:=HC.out.cell (HXC.out.cell rc (by simp)) (by simp)
   have hdb:=HE.out _ (Plain.getD_mem hlt)
   obtain⟨en,hen⟩:∃ en:Nat,E.getD k 0=en:=⟨(E.getD k 0).toNat,by omega⟩
   have H2E:=lh (Plain.outsJ_two (g:=g) (p:=⟨V,E⟩) hlt hen)
   rw[hen] at rcell hdb
   have hel:en<g.e.length:=by omega
   have hei:en<2000:=by have:=HSM.out;omega
   have HJL:=lh (Plain.outsJ_len g ⟨V,E⟩ k en)
   clear rc hen hdb
   go_wp2
   clear rcell
   go_loopw [8,9] (fun c _ wr=>∃ j:Nat,j≤2∧c=.int .i64 ((2*en+j:Nat):Int)∧SMap wr mb (2*k+j) (Plain.outsJ g ⟨V,E⟩ k en j)∧Chg [] w1 wr) (fun c _ _=>2*en+2 - (intOf c).toNat)
   case atStart=>exact⟨0,by omega,by go_num,by rw[Plain.outsJ_zero];exact HS.out,HC.out⟩
   case round =>
    obtain⟨j,hj,rfl,hsm,hcr⟩:=hrel
    have HS2:=lh hsm
    have HC2:=lh hcr
    clear hsm hcr HS HC
    by_cases hj2:j<2
    ·have HSU:=lh (Plain.outsJ_succ g ⟨V,E⟩ k en j)
     obtain⟨d,hd⟩:∃ d:Nat,2*en+j=d:=⟨_,rfl⟩
     have hd2:d / 2<g.e.length:=by omega
     obtain⟨n',v,hn',-,hv,hvN,-⟩:=HG.out.dart (d:=(d:Int)) (by omega) (by omega)
     rw[hd] at HSU ⊢
     rw[hv] at HSU
     have HV:=lh hv
     have hdd:(d:Int)≤2*(en:Int)+1:=by omega
     have I64d:I64 (d:Int):=I64.mk (by omega) (by omega)
     have I64v:I64 (v:Int):=I64.mk (by omega) (by have:=HSM.out;omega)
     have q0:=HC2.out.cell (HXC.out.cell HG.out.c0 (by simp)) (by simp)
     have q1:=HC2.out.cell (HXC.out.cell HG.out.c1 (by simp)) (by simp)
     have HL0:=lh (HJL.out j (v:Int))
     obtain⟨f0,hf0⟩:∃ f0,Plain.outsJ g ⟨V,E⟩ k en j=f0:=⟨_,rfl⟩
     rw[hf0] at HS2 HSU HL0
     have hkk:k<1024:=by omega
     clear hn' hv hf0
     go_wp2_with fail
     refine (dleaves_any _ g d _ hd2 (by have:=HSM.out;omega) ((HG.out.fresh HXC.out).fresh HC2.out).gr).mono ?_
     rintro _ w3 ⟨rfl,hc3⟩
     rw[HV.out]
     have HS3:=lh (HS2.out.fresh hc3)
     have HC3:=lh (HC2.out.trans hc3 (by simp))
     clear hc3 q0 q1
     go_wp2_with (first
      | (at_lookup;refine wl_slook rfl _ _ rfl HS3.out (by omega) rfl I64v rfl ?_;intro u4 r4 l4 b4;have R4:=lh r4;have B4:=lh b4;clear r4 l4 b4)
      | (at_builtin;refine wl_app_read rfl _ _ rfl (B:=mb+1) rfl rfl (R4.out.chg ((Chg.refl [] _).alloc _) (by simp)) (lit_ints _ I64d) (by have:=HS3.out.lt;simp;omega) (by have:=HL0.out;simp;omega) ?_;intro u5 w5 q5 c5 f5;have Q5:=lh q5;have D5:=lh (((Chg.refl (foot u4) w3).alloc (.cells #[.int .i64 (d:Int)] 3)).trans c5 (fun j hj=>Or.inl hj));have F5:=lh (fun j hj=>(f5 j hj).imp id (fun q=>Nat.le_trans ((Chg.refl [] w3).alloc (.cells #[.int .i64 (d:Int)] 3)).size q));clear q5 c5 f5)
      | (at_mapUpdate;refine wl_sback rfl _ _ _ rfl B4.out rfl rfl rfl Q5.out D5.out F5.out ?_;intro w6 s6 d6;have S6:=lh s6;have D6:=lh d6;clear s6 d6))
     go_roundw
     case rel =>
      have low4:∀ j∈foot u4,w1.heap.size≤j:=fun j hj=>by have:=(R4.out.low j (by rw[←R4.out.foot];exact hj)).1;have:=HMB.out;have:=HZ1.out;omega
      refine⟨j+1,by omega,by rw[←hd];go_num,by rw[HSU.out];exact S6.out,(HC3.out.trans D5.out (fun j hj=>Or.inr (low4 j hj))).trans D6.out (fun j hj=>Or.inr (by simp at hj;have:=HMB.out;have:=HZ1.out;omega))⟩
     case measure=>simp[intOf];omega
    have e2:j=2:=by omega
    subst e2
    rw[H2E.out] at HS2
    have HS3:=lh (show SMap wr mb (2*(k+1)) (Plain.outs g ⟨V,E⟩ (k+1)) from HS2.out)
    clear hj hj2
    go_wp2
    go_roundw
    case rel=>exact⟨k+1,by omega,by go_num,HS3.out,HC2.out⟩
    case measure=>simp[intOf];omega
  have e:k=E.length:=by omega
  subst e
  have HVN:=lh (HP.out.vn)
  have hd0:∀ d∈Plain.Pt.darts ⟨V,E⟩,0≤d∧d / 2<g.e.length:=fun d hd=>by
   have:=HE.out _ (Plain.mem_darts.1 hd)
   omega
  have HD0:=lh hd0
  have HFI:=lh (Plain.way_fin (on:=on) (a:=(a:Int)) HP.out (fun d hd=>(hd0 d hd).1))
  have HVR:=lh (show ∀ u∈V,0≤u∧u<N from fun u hu=>by have:=HP.out.vr u hu;rw[HG.out.n] at this;exact this)
  have HVL:=lh (show V.length≤1024 by have h:V.length≤N:=nodup_small (l:=V) (N:=N) HP.out.vn HVR.out;have:=HSM.out;omega)
  have HEND:=lh (show ∀ d∈Plain.Pt.darts ⟨V,E⟩,g.head d∈V from fun d hd=>(HP.out.tail_mem hd).2)
  have HS9:=lh (show SMap wr mb (2*E.length) (Plain.dartsAt g ⟨V,E⟩) by
   have h:=HS.out
   rwa[show Plain.outs g ⟨V,E⟩ E.length=Plain.dartsAt g ⟨V,E⟩ from funext fun v=>Plain.outs_all g ⟨V,E⟩ v] at h)
  obtain⟨-,x1,-,-⟩:=HX.out wr HC.out
  obtain⟨eb,eoff,rfl,rc⟩:=IntsAt.cellAt H2.out he0
  have ec:=HC.out.cell (HXC.out.cell rc (by simp)) (by simp)
  rw[HA.out,Nat.add_zero] at ec
  have hmm:=@run_makeMap Try.prog
  have HIM:=lh (IMap.made wr)
  have I64a:I64 (a:Int):=I64.mk (by omega) (by have:=HSM.out;omega)
  have HW1:=lh (show w.heap.size≤wr.heap.size from (HXC.out.trans HC.out (by simp)).size)
  have HMBL:=lh HS9.out.lt
  clear rc hd0 hk hlt HS
  go_wp2_with (refine wl_insert rfl _ _ _ rfl HIM.out (by unfold maxLen;omega) rfl I64a (I64.mk (by omega) (by omega)) rfl rfl ?_;intro w2 hm2 hg2;have HM2:=lh hm2;have HG2:=lh hg2;clear hm2 hg2)
  clear hmm x1 ec
  have HC2:=lh (show Chg [] wr w2 from ((Chg.refl [] wr).alloc (.map #[] 0)).grown HG2.out (row:=some wr.heap.size) (fun k hk=>by cases hk;exact Or.inr (Nat.le_refl _)))
  have HC12:=lh (HC.out.trans HC2.out (by simp))
  have HC02:=lh (HXC.out.trans HC12.out (by simp))
  have HQ3:=lh (QRow.of_row (row_lit1 (w:=w2) (B:=w2.heap.size) (Nat.le_refl _) I64a))
  have HC3:=lh ((Chg.refl [] w2).alloc (.cells #[.int .i64 (a:Int)] 3))
  have HM3:=lh (HM2.out.chg HC3.out (by simp))
  obtain⟨cb,hcb⟩:∃ n,wr.heap.size=n:=⟨_,rfl⟩
  have HCB:=lh hcb
  rw[hcb] at HM3 ⊢
  have HCL:=lh (show cb<w2.heap.size from by have:=HM2.out.lt;rw[hcb] at this;exact this)
  have HSA:=lh (HS9.out.fresh HC2.out)
  clear hcb HIM HM2 HG2
  generalize w2.alloc (.cells #[.int .i64 (a:Int)] 3)=w3 at *
  obtain⟨H,hH⟩:∃ n,w2.heap.size=n:=⟨_,rfl⟩
  have HHH:=lh hH
  rw[hH] at HQ3 HCL ⊢
  clear hH
  obtain⟨T,hT⟩:∃ T,Plain.wayOut g on ⟨V,E⟩ (V.length+2) (fun y=>if y=(a:Int) then some (-1) else none) [(a:Int)]=T:=⟨_,rfl⟩
  have HT:=lh hT
  rw[show (⟨V,E⟩:Plain.Pt).v.length=V.length from rfl,hT] at HFI
  have HFU:=lh (Plain.way_fuel (p:=⟨V,E⟩) (a:=(a:Int)))
  clear hT
  go_loopg [12] (V.length+2) (fun fuel c12 wx=>fuel≤V.length+2∧∃ (came:Plain.Came) (q:List Int) (n:Nat),QRow wx H c12 q∧IMap wx cb n came∧Hid (Plain.wayOut g on ⟨V,E⟩ fuel came q=T∧q.length+Plain.unseen V came<fuel∧n+Plain.unseen V came≤V.length+1∧∀ x∈q,x∈V)∧Chg [cb] w2 wx)
  case atStart=>exact⟨Nat.le_refl _,_,[(a:Int)],1,HQ3.out,HM3.out,lh ⟨HT.out,HFU.out,by have:=HFU.out;simp only[List.length_cons,List.length_nil] at this;omega,by intro x hx;rw[List.mem_singleton.1 hx];exact HAV.out⟩,HC3.out.mono (by simp)⟩
  case round =>
   obtain⟨hfu,came,q,n,hq,him,hinv,hc⟩:=hrel
   have HQR:=lh hq
   have HIMR:=lh him
   have HCR:=lh hc
   have HC0R:=lh (HC02.out.trans hc (fun j hj=>Or.inr (by rw[List.mem_singleton] at hj;have:=HW1.out;have:=HCB.out;omega)))
   have HCS:=lh (HC2.out.trans hc (fun j hj=>Or.inr (by rw[List.mem_singleton] at hj;have:=HCB.out;omega)))
   clear hq him hc
   cases q with
   | nil =>
    obtain⟨qo,qc,rfl⟩:=HQR.out.shape
    have HE0:=lh (show Plain.wayOf g on ⟨V,E⟩ a=[] from HFI.out.2 came (by rw[←hinv.out.1];cases gk <;> rfl))
    go_wp2
    go_ret
    exact⟨_,rfl,by rw[HE0.out];exact rowNil' _ _,HC0R.out⟩
   | cons u q =>
    have hgk:1≤gk:=by have:=hinv.out.2.1;simp only[List.length_cons] at this;omega
    have HWS0:=lh (show T=match Plain.wayIn g on (Plain.dartsAt g ⟨V,E⟩ u) came q with | (some z,c,_)=>(some z,c) | (none,c,q')=>Plain.wayOut g on ⟨V,E⟩ (gk - 1) c q' by
     rw[←hinv.out.1]
     obtain⟨n',hn'⟩:∃ n',gk=n'+1:=⟨gk - 1,by omega⟩
     rw[hn']
     rfl)
    have huV:=hinv.out.2.2.2 u (by simp)
    have hur:=HVR.out u huV
    have I64u:I64 u:=I64.mk (by omega) (by have:=HSM.out;omega)
    obtain⟨qb,qoff,qcap,rfl,qcell,hqc,-,-⟩:=HQR.out.cons
    have hqp:(0:Int)<((q.length+1:Nat):Int):=by omega
    have HIN:=lh (show q.length+1+Plain.unseen V came<gk∧n+Plain.unseen V came≤V.length+1∧∀ x∈q,x∈V from⟨by have:=hinv.out.2.1;simp only[List.length_cons] at this;exact this,hinv.out.2.2.1,fun x hx=>hinv.out.2.2.2 x (by simp[hx])⟩)
    have hlq:(u :: q).length=q.length+1:=rfl
    clear huV hur hinv
    go_wp2_with (at_lookup;refine wl_sread rfl _ _ rfl HS9.out HCS.out (by omega) rfl I64u rfl ?_;intro vv r0;obtain⟨vo,vc,rfl⟩:=r0.shape;have R0:=lh r0;clear r0)
    have HLD:=lh (show ∀ d∈Plain.dartsAt g ⟨V,E⟩ u,d∈Plain.Pt.darts ⟨V,E⟩∧g.tail d=u from fun d hd=>Plain.mem_dartsAt.1 hd)
    obtain⟨L,hL⟩:∃ L,Plain.dartsAt g ⟨V,E⟩ u=L:=⟨_,rfl⟩
    rw[hL] at HWS0 R0 HLD ⊢
    obtain⟨WI,hWI⟩:∃ WI,Plain.wayIn g on L came q=WI:=⟨_,rfl⟩
    have HWI:=lh hWI
    rw[hWI] at HWS0
    have hLL:L.length<4294967296:=R0.out.2.2
    clear hL hWI qcell hqc
    go_loopw [12,70] (fun c12 c70 wx=>∃ (k:Nat) (came:Plain.Came) (q:List Int) (n:Nat),k≤L.length∧c70=.int .i64 k∧QRow wx H c12 (u :: q)∧IMap wx cb n came∧Hid (Plain.wayIn g on (L.drop k) came q=WI∧q.length+1+Plain.unseen V came<gk∧n+Plain.unseen V came≤V.length+1∧∀ x∈q,x∈V)∧Chg [cb] w2 wx) (fun _ c _=>L.length - (intOf c).toNat)
    case atStart=>exact⟨0,came,q,n,Nat.zero_le _,rfl,HQR.out,HIMR.out,lh ⟨HWI.out,HIN.out.1,HIN.out.2.1,HIN.out.2.2⟩,HCR.out⟩
    case round =>
     obtain⟨k,came1,q1,n1,hk,rfl,hq,him,hin,hc⟩:=hrel
     have HQ1:=lh hq
     have HI1:=lh him
     have HC1x:=lh hc
     have HCS1:=lh (HC2.out.trans hc (fun j hj=>Or.inr (by rw[List.mem_singleton] at hj;have:=HCB.out;omega)))
     have HC01:=lh (HC02.out.trans hc (fun j hj=>Or.inr (by rw[List.mem_singleton] at hj;have:=HW1.out;have:=HCB.out;omega)))
     clear hq him hc HQR HIMR HCR HCS HC0R
     by_cases hlt:k<L.length
     ·obtain⟨gr,hvo,hrc⟩:=R0.out.some (by omega)
      subst hvo
      have ck:=HCS1.out.cell (hrc k hlt) (by simp)
      obtain⟨hdd,hdt⟩:=HLD.out (L.getD k 0) (by simp[List.getD,hlt])
      have hdr:=HD0.out _ hdd
      have HDC:=lh (Plain.drop_cons hlt)
      have hxV:=HEND.out _ hdd
      have hxr:=HVR.out _ hxV
      obtain⟨d,hd⟩:∃ d:Nat,L.getD k 0=d:=⟨(L.getD k 0).toNat,by omega⟩
      rw[hd] at ck hdd hdr HDC hxV hxr
      obtain⟨x,hx⟩:∃ x:Nat,g.head (d:Int)=x:=⟨(g.head (d:Int)).toNat,by omega⟩
      have HX:=lh hx
      rw[hx] at hxV hxr
      have htw:g.tail (Plain.twin (d:Int))=x:=by rw[Plain.tail_twin];exact hx
      have htd:=Plain.twin_div (d:Int)
      have htr:0≤Plain.twin (d:Int):=by omega
      obtain⟨t,ht⟩:∃ t:Nat,Plain.twin (d:Int)=t:=⟨(Plain.twin (d:Int)).toNat,by omega⟩
      rw[ht] at htw htd
      have ht2:t / 2<g.e.length:=by omega
      have hbt:=bits_twin d (by have:=HSM.out;omega)
      rw[ht] at hbt
      have HTW:=lh htw
      have hxN:x<N:=by omega
      have hxi:(x:Int)<(N:Int):=by omega
      have I64x:I64 (x:Int):=I64.mk (by omega) (by have:=HSM.out;omega)
      have I64d:I64 (d:Int):=I64.mk (by omega) (by have:=HSM.out;omega)
      have HXV:=lh hxV
      have q0:=HC01.out.cell HG.out.c0 (by simp)
      have qq1:=HC01.out.cell HG.out.c1 (by simp)
      have HEQ:=lh hin.out.1
      have HBD:=lh hin.out.2
      rw[HDC.out] at HEQ
      clear hrc hdd hdt hdr hxV hxr hd hx htw htd htr ht hin
      go_wp2_with fail
      refine (dleaves_any _ g t _ ht2 (by have:=HSM.out;omega) (HG.out.fresh HC01.out).gr).mono ?_
      rintro _ w5 ⟨rfl,hc5⟩
      rw[HTW.out]
      have HC5:=lh (HC1x.out.trans hc5 (by simp))
      have HC05:=lh (HC01.out.trans hc5 (by simp))
      have HQ5:=lh (HQ1.out.chg hc5 (by simp))
      have HI5:=lh (HI1.out.chg hc5 (by simp))
      clear hc5 q0 qq1 ck
      cases hcx:came1 (x:Int) with
      | some z =>
       have HCX:=lh hcx
       have HE2:=lh (show Plain.wayIn g on (L.drop (k+1)) came1 q1=WI by rw[←HEQ.out];exact (Plain.wayIn_hit (by rw[HX.out];exact hcx)).symm)
       clear hcx
       go_wp2_with (at_lookup;refine wp_look_hit _ rfl _ _ rfl HI5.out rfl I64x rfl HCX ?_)
       go_roundw
       case rel=>exact⟨k+1,came1,q1,n1,by omega,by go_num,HQ5.out,HI5.out,lh ⟨HE2.out,HBD.out⟩,HC5.out⟩
       case measure=>simp[intOf];omega
      | none =>
       have HCX:=lh hcx
       have HUN:=lh (Plain.unseen_put (c:=(d:Int)) HVN.out HXV.out hcx)
       have hn1:n1<maxLen:=by unfold maxLen;have:=HBD.out.2.1;have:=HVL.out;omega
       have HQN:=lh (show ∀ b∈(u12:Value).ownBlock.toList,b ∉ [cb] from fun b hb e=>by have:=(HQ5.out.own b hb).1;have:=HCL.out;rw[List.mem_singleton] at e;omega)
       cases hox:on (x:Int) with
       | true =>
        have HTT:=lh (show T=(some (x:Int),fun y=>if y=(x:Int) then some (d:Int) else came1 y) by
         have h:=Plain.wayIn_on (g:=g) (on:=on) (d:=(d:Int)) (ds:=L.drop (k+1)) (came:=came1) (q:=q1) (by rw[HX.out];exact hcx) (by rw[HX.out];exact hox)
         rw[HEQ.out,HX.out] at h
         rw[HWS0.out,h])
        obtain⟨l,hl1,hl2,hl3,hl4,hl5⟩:=HFI.out.1 _ _ HTT.out
        have HL1:=lh hl1
        have HL2:=lh hl2
        have HL3:=lh hl3
        have HL4:=lh (show l.length<1000000 by have h:l.length≤V.length:=hl4;have:=HVL.out;omega)
        have HL5:=lh (show ∀ d∈l,0≤d∧d / 2<g.e.length from fun d hd=>HD0.out d (hl5 d hd))
        have HOX:=lh hox
        clear hcx hox hl1 hl2 hl3 hl4 hl5
        go_wp2_with (first
         | (at_lookup;refine wp_look_miss _ rfl _ _ rfl HI5.out rfl I64x rfl HCX ?_)
         | (at_mapUpdate;refine wp_store _ rfl _ _ _ rfl HI5.out hn1 rfl I64x I64d rfl rfl ?_;intro w7 hm7 hg7;have HI7:=lh hm7;have C7:=lh (HC05.out.trans ((Chg.refl [cb] w5).grown hg7 (fun j hj=>by cases hj;exact Or.inl (by simp))) (fun j hj=>Or.inr (by rw[List.mem_singleton] at hj;have:=HW1.out;have:=HCB.out;omega)));have b2:=C7.out.cell HQ.out (by simp);have bb:=((HON.out.base (Nat.zero_le _)).chg C7.out (by simp)).cell hxN;rw[HOX.out] at bb;clear hm7 hg7))
        refine (traced_any sb N (n1+1) cb vE g _ (a:Int) x l w7 (HG.out.fresh C7.out) HI7.out (by have:=HSM.out;omega) HL3.out HL2.out HL4.out HL5.out).mono ?_
        rintro _ w8 ⟨v8,rfl,hr8,hc8⟩
        have HR8:=lh (hr8.base C7.out.size)
        have HC8:=lh (C7.out.trans hc8 (by simp))
        clear hr8 hc8
        go_wp2
        go_ret
        exact⟨_,rfl,by rw[HL1.out];exact HR8.out,HC8.out⟩
       | false =>
        have HE2:=lh (show Plain.wayIn g on (L.drop (k+1)) (fun y=>if y=(x:Int) then some (d:Int) else came1 y) (q1++[(x:Int)])=WI by
         have h:=Plain.wayIn_new (g:=g) (on:=on) (d:=(d:Int)) (ds:=L.drop (k+1)) (came:=came1) (q:=q1) (by rw[HX.out];exact hcx) (by rw[HX.out];exact hox)
         rw[HEQ.out,HX.out] at h
         exact h.symm)
        have HOX:=lh hox
        have hqn:(u :: q1).length+1<4294967296:=by have:=HBD.out.1;have:=HVL.out;have h:(u :: q1).length=q1.length+1:=rfl;omega
        obtain⟨qo,qc,rfl⟩:=HQ5.out.shape
        clear hcx hox
        go_wp2_with (first
         | (at_lookup;refine wp_look_miss _ rfl _ _ rfl HI5.out rfl I64x rfl HCX ?_)
         | (at_mapUpdate;refine wp_store _ rfl _ _ _ rfl HI5.out hn1 rfl I64x I64d rfl rfl ?_;intro w7 hm7 hg7;have HI7:=lh hm7;have D7:=lh ((Chg.refl [cb] w5).grown hg7 (fun j hj=>by cases hj;exact Or.inl (by simp)));have C7:=lh (HC05.out.trans D7.out (fun j hj=>Or.inr (by rw[List.mem_singleton] at hj;have:=HW1.out;have:=HCB.out;omega)));have b2:=C7.out.cell HQ.out (by simp);have bb:=((HON.out.base (Nat.zero_le _)).chg C7.out (by simp)).cell hxN;rw[HOX.out] at bb;have HQ7:=lh (HQ5.out.chg D7.out HQN.out);have HHS:=lh (show H≤w7.heap.size by rw[←HHH.out];exact (HC5.out.trans D7.out (fun j hj=>Or.inl hj)).size);clear hm7 hg7)
         | (at_builtin;refine wl_qput rfl _ _ rfl rfl rfl HQ7.out I64x HHS.out hqn ?_;intro v9 w9 r9 c9;have R9:=lh r9;have C9:=lh c9;clear r9 c9))
        go_roundw
        case rel =>
         have hlow:∀ j∈(Value.slice qo (u :: q1).length qc).ownBlock.toList,H≤j:=fun j hj=>(HQ7.out.own j hj).1
         refine⟨k+1,_,q1++[(x:Int)],n1+1,by omega,by go_num,R9.out,HI7.out.chg C9.out (fun e=>by have:=hlow _ e;have:=HCL.out;omega),lh ⟨HE2.out,?_,?_,?_⟩,?_⟩
         ·have h1:=HUN.out
          have h2:=HBD.out.1
          rw[List.length_append]
          simp only[List.length_cons,List.length_nil]
          omega
         ·have h1:=HUN.out
          have h2:=HBD.out.2.1
          omega
         ·intro y hy
          rcases List.mem_append.1 hy with r | r
          ·exact HBD.out.2.2 y r
          rw[List.mem_singleton.1 r];exact HXV.out
         exact (HC5.out.trans D7.out (fun j hj=>Or.inl hj)).trans C9.out (fun j hj=>Or.inr (by rw[HHH.out];exact hlow j hj))
        case measure=>simp[intOf];omega
     have e:k=L.length:=by omega
     subst e
     have HEQ:=lh hin.out.1
     rw[List.drop_length] at HEQ
     have HTT:=lh (show Plain.wayOut g on ⟨V,E⟩ (gk - 1) came1 q1=T by rw[HWS0.out,←HEQ.out];rfl)
     have HBD:=lh hin.out.2
     obtain⟨qb,qoff,qcap,rfl,-,hqc,hq1,hq2⟩:=HQ1.out.cons
     have HQA:=lh hq1
     have HQB:=lh hq2
     have hfu2:gk - 1≤V.length+2:=by omega
     clear hin hk hlt hq1 hq2
     by_cases hcap:1=qcap
     ·subst hcap
      have HQC:=lh (HQA.out rfl)
      have hq0:q1.length=0:=by omega
      go_wp2
      go_roundg (gk - 1)
      case measure=>omega
      case rel=>exact⟨hfu2,came1,q1,n1,by have h:=HQC.out;rw[hq0] at h;exact h,HI1.out,lh ⟨HTT.out,by have:=HBD.out.1;omega,HBD.out.2⟩,HC1x.out⟩
     have HQC:=lh (HQB.out (fun e=>hcap e.symm))
     have hl1:q1.length+1 - 1=q1.length:=by omega
     go_wp2
     go_roundg (gk - 1)
     case measure=>omega
     case rel=>exact⟨hfu2,came1,q1,n1,HQC.out,HI1.out,lh ⟨HTT.out,by have:=HBD.out.1;omega,HBD.out.2⟩,HC1x.out⟩
theorem put1_any (pc v:Nat) (_hv:v<1000000) (w:World) :
  Calls Try.prog 35 #[.int .i64 v,.pointer (some ⟨pc,0,none⟩)] w fun e w'=>e=.returned (.func (Fn.func 36) #[] #[.pointer (some ⟨pc,0,none⟩),.pointer (some ⟨w.heap.size,0,none⟩)])∧w'=w.alloc (.cells #[.int .i64 v] 3):=by
 go_enter Try.func35,Try.ntmps35
 go_wp2
 go_ret
 exact⟨rfl,rfl⟩
set_option maxHeartbeats 1000000 in
theorem put11_any (n v pc bx sb N:Nat) (vE:Value) (g:Plain.Gr) (w:World) (hG:GrIn w sb g vE N) (hd:n / 2<g.e.length) (_hv:v<1000000) (c1:w.cell? ⟨pc,0,none⟩=some (.pointer (some ⟨sb,0,none⟩))) (c2:w.cell? ⟨bx,0,none⟩=some (.int .i64 v)) :
  Calls Try.prog 36 #[.int .i64 n,.pointer (some ⟨pc,0,none⟩),.pointer (some ⟨bx,0,none⟩)] w fun e w'=>e=.returned (.bool (decide (g.tail n=v)))∧Chg [] w w':=by
 have HG:=lh hG
 have q0:=hG.c0
 have q1:=hG.c1
 have HSM:=lh hG.small
 obtain⟨x,hx⟩:∃ x,g.tail (n:Int)=x:=⟨_,rfl⟩
 have HX:=lh hx
 rw[hx]
 clear hG hx
 go_enter Try.func36,Try.ntmps36
 go_wp2_with fail
 have hS0:Chg [] w w.drew:=(Chg.refl [] w).drew
 refine wp_region_way (Chg [] w) [0,1,2,3,4,6,7,8] (Way.line [0,1,2,3,4,6,5,7,8] .done) (by kernel_rfl) (by kernel_rfl) ?_
 simp only[Way.line]
 repeat
  first
   | (refine along_off rfl (by rfl) (by rfl) (fun _ _ _ h=>h) hS0 ?_;simp only[Act.put,Z1,Z2,Z3,Z4,Z5,Z6])
   | (refine along_read (v:=?_) rfl (by rfl) (by rfl) (fun _ _ _ h=>h) hS0 (fun w' hS'=>?_) ?_;rotate_left;(focus (have rd0:=hS'.cell c1 (by simp);have rd1:=hS'.cell c2 (by simp);have rd2:=hS'.cell q0 (by simp);have rd3:=hS'.cell q1 (by simp);clear hS';go_simp;try with_reducible rfl));simp only[Act.put,Z1,Z2,Z3,Z4,Z5,Z6])
   | (refine along_skip rfl (by rfl) (by rfl) hS0 ?_;simp only[Act.put,Z1,Z2,Z3,Z4,Z5,Z6])
 refine along_op rfl (by rfl) (by rfl) (fun K hK=>?_)
 go_simp
 refine (dleaves_any _ g n _ hd (by have:=HSM.out;omega) (HG.out.fresh hS0).gr).mono ?_
 rw[HX.out]
 rintro e w3 ⟨rfl,hc3⟩
 have hS1:Chg [] w w3:=hS0.trans hc3 (by simp)
 refine hK.out _ _ (fun _=>hS1) ?_
 clear hK K hc3 hS0
 try simp only[Act.put,Z1,Z2,Z3,Z4,Z5,Z6]
 repeat
  first
   | (refine along_off rfl (by rfl) (by rfl) (fun _ _ _ h=>h) hS1 ?_;simp only[Act.put,Z1,Z2,Z3,Z4,Z5,Z6])
   | (refine along_read (v:=?_) rfl (by rfl) (by rfl) (fun _ _ _ h=>h) hS1 (fun w' hS'=>?_) ?_;rotate_left;(focus (have rd0:=hS'.cell c1 (by simp);have rd1:=hS'.cell c2 (by simp);have rd2:=hS'.cell q0 (by simp);have rd3:=hS'.cell q1 (by simp);clear hS';go_simp;try with_reducible rfl));simp only[Act.put,Z1,Z2,Z3,Z4,Z5,Z6])
   | (refine along_skip rfl (by rfl) (by rfl) hS1 ?_;simp only[Act.put,Z1,Z2,Z3,Z4,Z5,Z6])
 refine along_done ?_
 go_wp2
 go_ret
 exact⟨ret_bool (by rfl),hS1⟩
set_option maxRecDepth 100000 in
set_option maxHeartbeats 2000000 in
theorem ixput_any (v pc bx sb N:Nat) (vE:Value) (g:Plain.Gr) (vq:Value) (q:List Int) (w:World) (hG:GrIn w sb g vE N) (hv:v<1000000) (c1:w.cell? ⟨pc,0,none⟩=some (.pointer (some ⟨sb,0,none⟩))) (c2:w.cell? ⟨bx,0,none⟩=some (.int .i64 v)) (hq:∀ d∈q,0≤d∧d / 2<g.e.length) (hql:q.length<1000000000) (hvq:IntsAt w vq q) :
  Calls Try.prog 37 #[vq,.func (Fn.func 36) #[] #[.pointer (some ⟨pc,0,none⟩),.pointer (some ⟨bx,0,none⟩)]] w fun e w'=>e=.returned (.int .i64 (Plain.ixP (fun d=>decide (g.tail d=(v:Int))) q))∧Chg [] w w':=by
 have HQ:=lh hq
 have HV:=lh hvq
 have HG:=lh hG
 have H1:=lh c1
 have H2:=lh c2
 obtain⟨ao,ac,rfl,-,-,-⟩:=hvq
 clear hq c1 c2 hG
 obtain⟨P,hP⟩:∃ P:Int→Bool,(fun d=>decide (g.tail d=(v:Int)))=P:=⟨_,rfl⟩
 have HP:=lh (fun d=>show decide (g.tail d=(v:Int))=P d from congrFun hP d)
 rw[hP]
 clear hP
 go_enter Try.func37,Try.ntmps37
 go_wp2
 go_loopw [8] (fun c wr=>∃ k:Nat,k≤q.length∧c=.int .i64 k∧Hid (∀ j,j<k→P (q.getD j 0)=false)∧Chg [] w wr) (fun c _=>q.length - (intOf c).toNat)
 case atStart=>exact⟨0,Nat.zero_le _,rfl,lh (by omega),Chg.refl _ _⟩
 case round =>
  obtain⟨k,hk,rfl,HN,hc⟩:=hrel
  have HC:=lh hc
  by_cases hlt:k<q.length
  ·obtain⟨rb,roff,rfl,rc⟩:=IntsAt.cellAt HV.out hlt
   have rcell:=hc.cell rc (by simp)
   have hr:=HQ.out _ (Plain.getD_mem hlt)
   have HHIT:=lh (fun (h:P (q.getD k 0)=true)=>Plain.ixP_hit (P:=P) hlt h HN.out)
   have HNN:=lh (fun (h:P (q.getD k 0)=false) j (hj:j<k+1)=>(show P (q.getD j 0)=false from by
    by_cases e:j=k
    ·rw[e];exact h
    exact HN.out j (by omega)))
   obtain⟨n,e1⟩:∃ n:Nat,q.getD k 0=n:=⟨(q.getD k 0).toNat,by omega⟩
   rw[e1] at rcell HHIT HNN hr
   have hn2:n / 2<g.e.length:=by have:=hr.2;omega
   clear rc e1 hc hr
   go_wp2_with fail
   refine (put11_any n v pc bx sb N vE g _ (HG.out.fresh HC.out) hn2 hv (HC.out.cell H1.out (by simp)) (HC.out.cell H2.out (by simp))).mono ?_
   rintro e w2 ⟨rfl,hc2⟩
   rw[HP.out]
   have HC2:=lh (HC.out.trans hc2 (by simp))
   clear hc2 rcell
   cases h:P (n:Int) with
   | true =>
    have HI:=lh (HHIT.out h)
    clear h
    go_wp2
    go_ret
    exact⟨ret_int (show ((k:Nat):Int)=_ by rw[HI.out]),HC2.out⟩
   | false =>
    have HI:=lh (HNN.out h)
    clear h
    go_wp2
    go_roundw
    case rel=>exact⟨k+1,by omega,by go_num,HI,HC2.out⟩
    case measure=>simp[intOf];omega
  have e:k=q.length:=by omega
  subst e
  have HI:=lh (Plain.ixP_miss (P:=P) HN.out)
  clear hc
  go_wp2
  go_ret
  exact⟨ret_int (show (-1:Int)=_ by rw[HI.out]),HC.out⟩
def KindAt (w:World) (b:Nat) (t:TypeId):Prop:=∃ cs r,w.heap[b]?=some (.cells cs t r)
theorem KindAt.one {w:World} {b:Nat} {t u:TypeId} (h:KindAt w b t) (k:KindAt w b u):t=u:=by
 obtain⟨c1,r1,h⟩:=h
 obtain⟨c2,r2,k⟩:=k
 rw[h] at k
 simp at k
 exact k.2.1
theorem KindAt.ne {w:World} {b c:Nat} {t u:TypeId} (h:KindAt w b t) (k:KindAt w c u) (hn:t≠u):b≠c:=fun e=>hn (h.one (e ▸ k))
theorem KindAt.lt {w:World} {b:Nat} {t:TypeId} (h:KindAt w b t):b<w.heap.size:=by
 obtain⟨c1,r1,h⟩:=h
 exact lt_of_block h
theorem KindAt.chg {w w':World} {b:Nat} {t:TypeId} {own:List Nat} (h:KindAt w b t) (hc:Chg own w w') (hb:b ∉ own):KindAt w' b t:=by
 obtain⟨c1,r1,h⟩:=h
 exact⟨c1,r1,hc.heap h hb⟩
theorem own_kind {w:World} {B:Nat} {e:TypeId} {sz n:Nat} {v:Value} {xs:List Value} (h:w.ownsRow B e sz v n xs) {b:Nat} (hb:v.ownBlock=some b):KindAt w b e:=by
 rcases h.2 with ⟨rfl,_⟩ | ⟨g',c',cur,rfl,_,hh,_⟩
 ·cases hb
 simp[Value.ownBlock] at hb
 subst hb
 exact⟨_,_,hh⟩
theorem RowAt.kindAt {w:World} {B:Nat} {v:Value} {l:List Int} (h:RowAt w B v l) {b:Nat} (hb:v.ownBlock=Option.some b):KindAt w b 3:=own_kind h.1 hb
theorem BitsAt.kindAt {w:World} {B b n:Nat} {f:Int→Bool} (h:BitsAt w B b n f):KindAt w b 4:=by
 obtain⟨cs,hh⟩:=h.kind
 exact⟨cs,_,hh⟩
theorem FacesAt.kinds {g:Plain.Gr} {w:World} {B N:Nat} {fv:Value} {xs:List Value} {F:List (List Int)} (h:FacesAt g w B N fv xs F) {k b:Nat} (hk:k<xs.length) (hb:(xs.getD k undef).ownBlock=some b):B≤b∧b<w.heap.size∧(KindAt w b 3∨KindAt w b 4):=by
 have hl:=h.len
 rcases (show ∃ i,k=2*i∨k=2*i+1 from⟨k / 2,by omega⟩) with ⟨i,rfl | rfl⟩
 ·have hr:=h.row i (by omega)
  have:=hr.low b (by rw[hb];simp)
  exact⟨this.1,this.2,Or.inl (hr.kindAt hb)⟩
 obtain⟨b',e,hbit⟩:=h.has i (by omega)
 rw[e] at hb
 simp[Value.ownBlock] at hb
 subst hb
 have:=hbit.lt
 exact⟨this.1,this.2,Or.inr hbit.kindAt⟩
theorem FacesAt.other {g:Plain.Gr} {w w':World} {B N:Nat} {fv:Value} {xs:List Value} {F:List (List Int)} {own:List Nat} (h:FacesAt g w B N fv xs F) (hc:Chg own w w') (ho:∀ j∈own,∃ t,KindAt w j t∧t≠68∧t≠3∧t≠4):FacesAt g w' B N fv xs F:=by
 refine h.chg hc (fun b hb hm=>?_) (fun k b hk hb hm=>?_)
 ·obtain⟨t,h1,h2,-,-⟩:=ho b hm
  exact h2 (h1.one (own_kind h.out hb))
 obtain⟨t,h1,-,h2,h3⟩:=ho b hm
 rcases (h.kinds hk hb).2.2 with q | q
 ·exact h2 (h1.one q)
 exact h3 (h1.one q)
theorem Nest.others {w w':World} {B n sz:Nat} {e:TypeId} {ov:Value} {xs:List Value} {cs:List Cell} {own:List Nat} (h:Nest w B e sz ov n xs cs) (hc:Chg own w w') (ho:∀ j∈own,∃ t,KindAt w j t∧t≠e∧t≠3):Nest w' B e sz ov n xs cs :=
 h.other hc fun j hj cs t r hh=>by
  obtain⟨u,h1,h2,h3⟩:=ho j hj
  have:=h1.one ⟨cs,r,hh⟩
  subst this
  exact⟨h2,h3⟩
structure SkBase (w0 w:World) (sb ob N:Nat) (g:Plain.Gr) (vE fv rv:Value) (on:Int→Bool):Prop where
 gr:GrAt w0 (.agg #[.int .i64 g.n,vE]) g
 n:g.n=N
 err:g.err=0
 chg:Chg [] w0 w
 low:w0.heap.size≤sb
 heap:w.heap[sb]?=some (.cells #[.int .i64 g.n,vE,.slice (some ⟨ob,0,none⟩) N N,fv,rv] 49 (0,0))
 on:BitsAt w w0.heap.size ob N on
section
variable {w0 w w' : World} {sb ob N : Nat} {g : Plain.Gr} {vE fv rv : Value} {on : Int → Bool}
theorem SkBase.kind (h:SkBase w0 w sb ob N g vE fv rv on):KindAt w sb 49:=⟨_,_,h.heap⟩
theorem SkBase.gri (h:SkBase w0 w sb ob N g vE fv rv on):GrIn w sb g vE N :=
 ⟨(cell_of_row _ _ 0 _ _ _ h.heap).trans rfl,(cell_of_row _ _ 1 _ _ _ h.heap).trans rfl,h.gr.fresh h.chg,h.n,h.err⟩
theorem SkBase.q2 (h:SkBase w0 w sb ob N g vE fv rv on):w.cell? ⟨sb,2,none⟩=some (.slice (some ⟨ob,0,none⟩) N N):=(cell_of_row _ _ 2 _ _ _ h.heap).trans rfl
theorem SkBase.q3 (h:SkBase w0 w sb ob N g vE fv rv on):w.cell? ⟨sb,3,none⟩=some fv:=(cell_of_row _ _ 3 _ _ _ h.heap).trans rfl
theorem SkBase.q4 (h:SkBase w0 w sb ob N g vE fv rv on):w.cell? ⟨sb,4,none⟩=some rv:=(cell_of_row _ _ 4 _ _ _ h.heap).trans rfl
theorem SkBase.free (h:SkBase w0 w sb ob N g vE fv rv on) (i:Nat):w.frozen? ⟨sb,i,none⟩=false:=free_at h.heap i
theorem SkBase.more {own:List Nat} (h:SkBase w0 w sb ob N g vE fv rv on) (hc:Chg own w w') (h0:∀ j∈own,w0.heap.size≤j) (h1:sb ∉ own) (h2:ob ∉ own):SkBase w0 w' sb ob N g vE fv rv on :=
 ⟨h.gr,h.n,h.err,h.chg.trans hc (fun j hj=>Or.inr (h0 j hj)),h.low,hc.heap h.heap h1,h.on.chg hc h2⟩
theorem SkBase.fresh (h:SkBase w0 w sb ob N g vE fv rv on) (hc:Chg [] w w'):SkBase w0 w' sb ob N g vE fv rv on:=h.more hc (by simp) (by simp) (by simp)
theorem SkBase.ob_ne (h:SkBase w0 w sb ob N g vE fv rv on):ob≠sb:=h.on.kindAt.ne h.kind (by decide)
theorem SkBase.set3 (h:SkBase w0 w sb ob N g vE fv rv on) (fv':Value):SkBase w0 (w.setCell ⟨sb,3,none⟩ fv') sb ob N g vE fv' rv on:=by
 have hc:Chg [sb] w (w.setCell ⟨sb,3,none⟩ fv'):=(Chg.refl _ _).setCell (Or.inl (by simp)) _
 exact⟨h.gr,h.n,h.err,h.chg.trans hc (fun j hj=>Or.inr (by rw[List.mem_singleton.1 hj];exact h.low)),h.low,heap_setCell_same h.heap 3 fv',h.on.chg hc (by simpa using h.ob_ne)⟩
theorem SkBase.set4 (h:SkBase w0 w sb ob N g vE fv rv on) (rv':Value):SkBase w0 (w.setCell ⟨sb,4,none⟩ rv') sb ob N g vE fv rv' on:=by
 have hc:Chg [sb] w (w.setCell ⟨sb,4,none⟩ rv'):=(Chg.refl _ _).setCell (Or.inl (by simp)) _
 exact⟨h.gr,h.n,h.err,h.chg.trans hc (fun j hj=>Or.inr (by rw[List.mem_singleton.1 hj];exact h.low)),h.low,heap_setCell_same h.heap 4 rv',h.on.chg hc (by simpa using h.ob_ne)⟩
theorem SkBase.setOn (h:SkBase w0 w sb ob N g vE fv rv on) (v:Nat):SkBase w0 (w.setCell ⟨ob,v,none⟩ (.bool true)) sb ob N g vE fv rv (fun u=>if u=(v:Int) then true else on u):=by
 have hc:Chg [ob] w (w.setCell ⟨ob,v,none⟩ (.bool true)):=(Chg.refl _ _).setCell (Or.inl (by simp)) _
 exact⟨h.gr,h.n,h.err,h.chg.trans hc (fun j hj=>Or.inr (by rw[List.mem_singleton.1 hj];exact h.on.lt.1)),h.low,hc.heap h.heap (by simpa using fun e=>h.ob_ne e.symm),h.on.set true⟩
theorem SkBase.same (h:SkBase w0 w sb ob N g vE fv rv on) {on':Int→Bool} (he:∀ i:Nat,i<N→on i=on' i):SkBase w0 w sb ob N g vE fv rv on':=⟨h.gr,h.n,h.err,h.chg,h.low,h.heap,bits_same h.on he⟩
end
structure FarAt (ob:Nat) (xs ys:List Value):Prop where
 o:∀ k,k<xs.length→(xs.getD k undef).ownBlock≠some ob
 y:∀ k l b,k<xs.length→l<ys.length→(xs.getD k undef).ownBlock=some b→(ys.getD l undef).ownBlock≠some b
structure SkOwn (w0 w:World) (sb ob N:Nat) (g:Plain.Gr) (vE fv rv:Value) (xs ys:List Value) (s:Plain.Sk):Prop where
 base:SkBase w0 w sb ob N g vE fv rv s.on
 faces:FacesAt g w w0.heap.size N fv xs s.faces
 rest:Nest w w0.heap.size 74 3 rv s.rest.length ys (scr3 s.rest)
 far:FarAt ob xs ys
section
variable {w0 w w' : World} {sb ob N : Nat} {g : Plain.Gr} {vE fv rv : Value} {xs ys : List Value} {s : Plain.Sk}
end
theorem FacesAt.put {g:Plain.Gr} {w:World} {B N fb c f hb:Nat} {xs:List Value} {F:List (List Int)} {v:Value} {l:List Int} (h:FacesAt g w B N (.slice (some ⟨fb,0,none⟩) F.length c) xs F) (hf:f<F.length) (hv:RowAt w B v l) (hh:BitsAt w B hb N (Plain.hasV g l)) :
  FacesAt g ((w.setCell ⟨fb,2*f,none⟩ v).setCell ⟨fb,2*f+1,none⟩ (.slice (some ⟨hb,0,none⟩) N N)) B N (.slice (some ⟨fb,0,none⟩) F.length c) ((xs.set (2*f) v).set (2*f+1) (.slice (some ⟨hb,0,none⟩) N N)) (F.set f l):=by
 have hl:=h.len
 have hk:KindAt w fb 68:=own_kind h.out rfl
 have hc:Chg [fb] w ((w.setCell ⟨fb,2*f,none⟩ v).setCell ⟨fb,2*f+1,none⟩ (.slice (some ⟨hb,0,none⟩) N N)):=((Chg.refl _ _).setCell (Or.inl (by simp)) _).setCell (Or.inl (by simp)) _
 have hrow:∀ {u:Value} {m:List Int},RowAt w B u m→RowAt ((w.setCell ⟨fb,2*f,none⟩ v).setCell ⟨fb,2*f+1,none⟩ (.slice (some ⟨hb,0,none⟩) N N)) B u m:=fun hr=>hr.chg hc fun b hb=>by
  rw[List.mem_singleton]
  exact (hr.kindAt (by simpa using hb)).ne hk (by decide)
 have hbit:∀ {b:Nat} {p:Int→Bool},BitsAt w B b N p→BitsAt ((w.setCell ⟨fb,2*f,none⟩ v).setCell ⟨fb,2*f+1,none⟩ (.slice (some ⟨hb,0,none⟩) N N)) B b N p:=fun hr=>hr.chg hc (by
  rw[List.mem_singleton]
  exact hr.kindAt.ne hk (by decide))
 refine⟨?_,by simp[hl],fun i hi=>?_,fun i hi=>?_⟩
 ·have h1:=(h.out.stored (2*f) v).1
  have h2:=(h1.stored (2*f+1) (.slice (some ⟨hb,0,none⟩) N N)).1
  rw[List.length_set]
  exact h2
 ·rw[List.length_set] at hi
  rw[getD_set' _ _ _ _ _ (by rw[List.length_set];omega),if_neg (by omega),getD_set' _ _ _ _ _ (by omega),getD_setL _ _ _ _ hf]
  by_cases e:i=f
  ·rw[if_pos (by omega),if_pos e];exact hrow hv
  rw[if_neg (by omega),if_neg e];exact hrow (h.row i hi)
 rw[List.length_set] at hi
 rw[getD_set' _ _ _ _ _ (by rw[List.length_set];omega),getD_setL _ _ _ _ hf]
 by_cases e:i=f
 ·rw[if_pos (by omega),if_pos e];exact⟨hb,rfl,hbit hh⟩
 rw[if_neg (by omega),if_neg e,getD_set' _ _ _ _ _ (by omega),if_neg (by omega)]
 obtain⟨b,e1,h1⟩:=h.has i hi
 exact⟨b,e1,hbit h1⟩
theorem FacesAt.add {g:Plain.Gr} {w w':World} {B N fb c hb:Nat} {fv:Value} {xs:List Value} {F:List (List Int)} {v:Value} {l:List Int} (h:FacesAt g w B N fv xs F) (hv:RowAt w B v l) (hh:BitsAt w B hb N (Plain.hasV g l))
  (hn:w'.ownsRow B 68 2 (.slice (some ⟨fb,0,none⟩) (F.length+1) c) (F.length+1) (xs++[v,.slice (some ⟨hb,0,none⟩) N N])) (hc:Chg fv.ownBlock.toList w w') :
  FacesAt g w' B N (.slice (some ⟨fb,0,none⟩) (F.length+1) c) (xs++[v,.slice (some ⟨hb,0,none⟩) N N]) (F++[l]):=by
 have hl:=h.len
 have hk:∀ b∈fv.ownBlock.toList,KindAt w b 68:=fun b hb=>own_kind h.out (by simpa using hb)
 have hrow:∀ {u:Value} {m:List Int},RowAt w B u m→RowAt w' B u m:=fun hr=>hr.chg hc fun b hb hm=>(hr.kindAt (by simpa using hb)).ne (hk b hm) (by decide) rfl
 have hbit:∀ {b:Nat} {p:Int→Bool},BitsAt w B b N p→BitsAt w' B b N p:=fun hr=>hr.chg hc fun hm=>hr.kindAt.ne (hk _ hm) (by decide) rfl
 refine⟨by rw[List.length_append];exact hn,by simp[hl];omega,fun i hi=>?_,fun i hi=>?_⟩
 ·rw[List.length_append,List.length_singleton] at hi
  by_cases e:i<F.length
  ·rw[getD_left (by omega),getD_left e];exact hrow (h.row i e)
  rw[getD_right (by omega),getD_right (by omega),show 2*i - xs.length=0 by omega,show i - F.length=0 by omega];exact hrow hv
 rw[List.length_append,List.length_singleton] at hi
 by_cases e:i<F.length
 ·rw[getD_left (by omega),getD_left e]
  obtain⟨b,e1,h1⟩:=h.has i e
  exact⟨b,e1,hbit h1⟩
 rw[getD_right (by omega),getD_right (by omega),show 2*i+1 - xs.length=1 by omega,show i - F.length=0 by omega];exact⟨hb,rfl,hbit hh⟩
end Go.Proofs.Ytbkjljffnkdcjaa
