/- rest.look: its contract. Conditions: a graph, a part, a plan that lie in memory and read so, of a bounded size. -/
import Derived.Test.YtkacjmoamgjfpaaGreatHxRegs8
namespace Go.Proofs.YtkacjmoamgjfpaaGreat
open Go.RowKit Go.Maps
set_option maxRecDepth 100000 in
set_option maxHeartbeats 8000000 in
theorem lookR_any (vg vp vx:Value) (g:Plain.Gr) (p:Plain.Pt) (turn same:List (List Int)) (w:World) (hpl:p.e.length≤10000) (hpv:p.v.length≤10000) (hTL:turn.length<2147483648) (hS:Plain.sumLen turn turn.length<2147483648) (hsl:same.length≤10000) (hsr:∀ i,(same.getD i []).length≤10000) (hg:GrAt w vg g) (hp:PtAt w vp p) (hx:PlAt w vx turn same) :
  Calls Tryz.prog 87 #[vg,vp,vx] w fun e w'=>∃ mv,e=.returned (.tuple #[mv,.int .i64 (Plain.planErr g p turn same)])∧(Plain.planErr g p turn same≠0→mv=.map none) ∧
   (Plain.planErr g p turn same=0→∃ lb,mv=.map (some lb)∧w.heap.size≤lb∧IMap w' lb 1000000000000 (Plain.leftOf (Plain.regionsOf g p turn same) (Plain.walksOf g p turn))∧(Plain.regionsOf g p turn same).length≤30000)∧Chg [] w w':=by
 have HS1:=lh hS
 have HSR:=lh hsr
 clear hS hsr
 have HG:=lh hg
 have HP:=lh hp
 have HX:=lh hx
 obtain⟨eo,cap,rfl,hn,hm,hsm,hcell⟩:=hg
 obtain⟨v1,v2,rfl,hv,he⟩:=hp
 obtain⟨ao,ac,rfl,has,ham,hacell⟩:=hv
 obtain⟨bo,bc,rfl,hbs,hbm,hbcell⟩:=he
 have HAC:=lh hacell
 have HBC:=lh hbcell
 obtain⟨t1,t2,rfl,ht,hs⟩:=hx
 have HT:=lh ht
 have HS:=lh hs
 obtain⟨tno,tc,rfl,htm,-⟩:=ht
 obtain⟨so,sc,rfl,hsm2,hsc⟩:=hs
 obtain⟨-,-,hc1⟩:=box_two w #[.int .i64 g.n,.slice eo g.e.length cap] #[.slice ao p.v.length ac,.slice bo p.e.length bc] 24 29
 obtain⟨-,hc3⟩:=box_three w #[.int .i64 g.n,.slice eo g.e.length cap] #[.slice ao p.v.length ac,.slice bo p.e.length bc] #[.slice tno turn.length tc,.slice so same.length sc] 24 29 32
 have HC1:=lh (hc1.trans hc3 (by simp))
 have HBXS:=lh (fun w2 h=>three_boxes w (g:=g) (p:=p) (turn:=turn) (same:=same) (eo:=eo) (ao:=ao) (bo:=bo) (tno:=tno) (so:=so) (cap:=cap) (ac:=ac) (bc:=bc) (tc:=tc) (sc:=sc) (w2:=w2) h)
 clear hcell hacell hbcell hsm hbs has hn hc1 hc3 hsc
 obtain⟨x0,x1,y0,y1,z0,z1,hsz⟩:=HBXS.out _ (Chg.refl _ _)
 go_enter Tryz.func87,Tryz.ntmps87
 go_wp2_with fail
 refine (regions_any _ _ _ g p turn same _ (by omega) (by omega) hTL HS1.out hsl HSR.out (HG.out.fresh HC1.out) (HP.out.fresh HC1.out) (HX.out.fresh HC1.out)).mono ?_
 rintro e w2 ⟨ov,rfl,herr,hres,hc2⟩
 obtain⟨w1,hw1⟩:∃ w1,(((w.alloc (.cells #[.int .i64 g.n,.slice eo g.e.length cap] 24)).alloc (.cells #[.slice ao p.v.length ac,.slice bo p.e.length bc] 29)).alloc (.cells #[.slice tno turn.length tc,.slice so same.length sc] 32))=w1:=⟨_,rfl⟩
 rw[hw1] at HC1 HBXS hc2
 clear hw1
 have HC2:=lh hc2
 have HW2:=lh (HC1.out.trans HC2.out (by simp))
 have HBX:=lh (fun wx (hx:Chg [] w2 wx)=>HBXS.out wx (HC2.out.trans hx (by simp)))
 clear x0 x1 y0 y1 z0 z1 hsz hc2
 by_cases hz:Plain.planErr g p turn same=0
 ·obtain⟨vs,ll,h1,h2,h3,h4⟩:=hres hz
  have hpt:=Plain.parted hz h4
  have hreg:Plain.IsRegs g p turn same ll:=⟨h2,h3⟩
  have hsm:=Plain.regs_small hpt hreg
  have hwl:=h4.len
  have HRD:=lh (h1.read fun l hl=>⟨fun x hx=>((hsm l hl).1 x hx).1,by have:=(hsm l hl).2;omega⟩)
  have hflat:=(h2.flatten).trans hpt.all
  have HND:=lh (show ll.flatten.Nodup from hflat.nodup_iff.2 hpt.keysNodup)
  have HPN:=lh (Plain.places_nodup hpt.part hpt.walks)
  have HLS:=lh (fun l hl x hx=>((hsm l hl).1 x hx).1)
  have HLL:=lh (fun l hl=>Nat.le_trans (hsm l hl).2 (show (Plain.walksOf g p turn).length≤30000 by omega))
  have hlln:ll.length≤30000:=by
   have h5:∀ {s:List (List Int)},(∀ l∈s,l≠[])→s.length≤s.flatten.length:=by
    intro s
    induction s with
    | nil=>simp
    | cons a s ih =>
     intro hs
     have:=ih fun l hl=>hs l (by simp[hl])
     have:=List.length_pos_iff.2 (hs a (by simp))
     rw[List.flatten_cons,List.length_append,List.length_cons]
     omega
   have h6:=h5 fun l hl=>hpt.ne l (h2.mem_iff.1 hl)
   have h7:=hflat.length_eq
   rw[List.length_map] at h7
   omega
  have HLE:=lh (show ll=Plain.regionsOf g p turn same from hreg.eq hpt)
  have HTE:=lh (show Plain.turnErr g p turn=0 from Plain.turnErr_ok hpt.part hpt.turns)
  have HPE:=lh hpt.part
  have HWK:=lh hpt.walks
  have HPZ:=lh hz
  have HN0:=lh (Plain.numTo_start ll)
  have HNA:=lh (Plain.numTo_all ll)
  have hvl:vs.length=ll.length:=h1.len
  obtain⟨oo,oc,rfl⟩:=owns_shape h1.out
  rw[hz]
  rw[hvl] at HRD ⊢
  clear hres herr h1 h2 h3 h4 hz hpt hreg hsm hflat hvl
  have hmm:=@run_makeMap Tryz.prog
  go_wp2
  clear hmm
  have HM0:=lh (IMap.made w2)
  have HC4:=lh ((Chg.refl [] w2).alloc (.map #[] 0))
  obtain⟨nb,hnb⟩:∃ nb,w2.heap.size=nb:=⟨_,rfl⟩
  rw[hnb] at HM0 ⊢
  have HNB:=lh (show w2.heap.size≤nb by omega)
  clear hnb
  generalize w2.alloc (.map #[] 0)=w4 at *
  go_loopw [35] (fun c wr=>∃ i:Nat,i≤ll.length∧c=.int .i64 i∧IMap wr nb (i*1000000) (Plain.numTo ll i 0)∧Chg [] w2 wr) (fun c _=>ll.length - (intOf c).toNat)
  case atStart=>exact⟨0,Nat.zero_le _,rfl,by rw[Nat.zero_mul,HN0.out];exact HM0.out,HC4.out⟩
  case round =>
   obtain⟨i,hi,rfl,hm,hc⟩:=hrel
   have HM:=lh hm
   have HC:=lh hc
   clear hm hc
   by_cases hil:i<ll.length
   ·obtain⟨tb,toff,uo,uc,rfl,tcell,hrow⟩:=(HRD.out.fresh HC.out).row hil
    have hmm:ll.getD i []∈ll:=by simp[List.getD,hil]
    have HNX:=lh (fun j hj=>Plain.numTo_next (j:=j) HND.out hil hj)
    have HNR:=lh (Plain.numTo_row hil)
    have HLS2:=lh (HLS.out _ hmm)
    have hll2:=HLL.out _ hmm
    obtain⟨T,hT⟩:∃ T,ll.getD i []=T:=⟨_,rfl⟩
    rw[hT] at tcell hrow HNX HNR HLS2 hll2
    have HROW:=lh hrow
    have II:I64 (i:Int):=I64.mk (by omega) (by omega)
    clear hrow hmm hT
    go_wp2
    clear tcell
    go_loopw [42] (fun c wi=>∃ j:Nat,j≤T.length∧c=.int .i64 j∧IMap wi nb (i*1000000+j) (Plain.numTo ll i j)∧Chg [nb] wr wi) (fun c _=>T.length - (intOf c).toNat)
    case atStart=>exact⟨0,Nat.zero_le _,rfl,HM.out.mono (by omega),Chg.refl _ _⟩
    case round =>
     rename World=>wi
     obtain⟨j,hj,rfl,hm,hc⟩:=hrel
     have HMJ:=lh hm
     have HCJ:=lh hc
     have HC2J:=lh (HC.out.trans hc (fun j hj=>Or.inr (by simp at hj;have:=HNB.out;omega)))
     clear hm
     by_cases hjl:j<T.length
     ·obtain⟨rb,roff,rfl,rc⟩:=IntsAt.cellAt HROW.out hjl
      have hne:rb≠nb:=fun e=>HM.out.cell_ne rc e
      have rcell:=hc.cell rc (by simpa using hne)
      have IY:=HLS2.out (T.getD j 0) (Plain.getD_mem hjl)
      have HNJ:=lh (HNX.out j hjl)
      obtain⟨y,hy⟩:∃ y,T.getD j 0=y:=⟨_,rfl⟩
      rw[hy] at rcell IY HNJ
      have hmx:i*1000000+j<maxLen:=by unfold maxLen;omega
      clear rc hne hc hy
      go_wp2_with (at_mapUpdate;refine wp_store _ rfl _ _ _ rfl HMJ.out hmx rfl IY II rfl rfl ?_;intro w6 m6 g6;have M6:=lh m6;have G6:=lh g6;clear m6 g6)
      go_roundw
      case rel=>exact⟨j+1,by omega,by go_num,by have:=M6.out;rw[HNJ.out] at this;exact this.mono (by omega),HCJ.out.grown G6.out (fun j hj=>by cases hj;exact Or.inl (by simp))⟩
      case measure=>simp[intOf];omega
     have e:j=T.length:=by omega
     subst e
     clear hc
     go_wp2
     go_roundw
     case rel=>exact⟨i+1,by omega,by go_num,by rw[←HNR.out];exact HMJ.out.mono (by omega),HC2J.out⟩
     case measure=>simp[intOf];omega
   have e:i=ll.length:=by omega
   subst e
   rw[HNA.out] at HM
   generalize wr=wz at *
   obtain⟨x0,x1,y0,y1,z0,z1,hsz⟩:=HBX.out wz HC.out
   have x0n:=fun o=>cellNew x0 o
   have x1n:=fun o=>cellNew x1 o
   have y0n:=fun o=>cellNew y0 o
   have y1n:=fun o=>cellNew y1 o
   have z0n:=fun o=>cellNew z0 o
   have hmm:=@run_makeMap Tryz.prog
   have HWZ:=lh (HW2.out.trans HC.out (by simp))
   have hcn:=(Chg.refl [] wz).alloc (.map #[] 0)
   have HCN:=lh hcn
   have HL0:=lh (IMap.made wz)
   have HMA:=lh (HM.out.chg hcn (by simp))
   have HLB:=lh (show w.heap.size≤wz.heap.size from HWZ.out.size)
   have HNLT:=lh (show nb<wz.heap.size from HM.out.lt)
   clear x0 x1 y0 y1 z0 z1 hsz hcn
   go_wp2_with fail
   clear hmm x0n x1n y0n y1n z0n
   generalize hw9:wz.alloc (.map #[] 0)=w9 at *
   obtain⟨lb,hlb⟩:∃ lb,wz.heap.size=lb:=⟨_,rfl⟩
   rw[hlb] at HL0 HLB HNLT ⊢
   have HLBE:=lh hlb
   have HW9:=lh (HWZ.out.trans HCN.out (by simp))
   clear hw9 hlb
   refine (walks_any _ _ _ g p turn _ (by omega) (by omega) hTL HS1.out (HG.out.fresh HW9.out) (HP.out.fresh HW9.out) (HT.out.fresh HW9.out)).mono ?_
   rintro e w5 ⟨ovw,rfl,-,hw2,hc5⟩
   obtain⟨W0,xw,hwk,hnw⟩:=hw2 HTE.out
   have hwe:=hwk.eq HPE.out
   subst hwe
   obtain⟨wo,wcap,rfl⟩:=hnw.shape
   have HNW:=lh hnw
   have HM5:=lh (HMA.out.chg hc5 (by simp))
   have HL5:=lh (HL0.out.chg hc5 (by simp))
   have HW5:=lh (HW9.out.trans hc5 (by simp))
   have HLF0:=lh (Plain.leftTo_start ll (Plain.walksOf g p turn))
   have HLFA:=lh (Plain.leftTo_all ll (Plain.walksOf g p turn))
   have HPL:=lh (Plain.places8_len (Plain.walksOf g p turn))
   have HFL:=lh (fun f hf=>Plain.face_len (f:=f) HPE.out HWK.out hf)
   have HFC:=lh (fun f hf=>Plain.face_cases (g:=g) (f:=f) HPE.out HWK.out hf)
   have HLZ:=lh (show wz.heap.size≤lb by have:=HLBE.out;omega)
   rw[HTE.out]
   obtain⟨W,hW⟩:∃ W,Plain.walksOf g p turn=W:=⟨_,rfl⟩
   have HWE:=lh hW
   rw[hW] at hwl HNW HPN HLF0 HLFA HPL HFC HFL ⊢
   clear hnw hw2 hwk hc5 hW
   go_wp2
   go_loopw [62] (fun c wr=>∃ i:Nat,i≤W.length∧c=.int .i64 i∧IMap wr nb (ll.length*1000000) (fun y=>(Plain.regionAt ll y).map fun (k:Nat)=>(k:Int))∧IMap wr lb (i*1000000) (Plain.leftTo ll W i 0)∧Chg [lb] w5 wr) (fun c _=>W.length - (intOf c).toNat)
   case atStart=>exact⟨0,Nat.zero_le _,rfl,HM5.out,by rw[Nat.zero_mul,HLF0.out];exact HL5.out,Chg.refl _ _⟩
   case round =>
    obtain⟨i,hi,rfl,hmn,hml,hc⟩:=hrel
    have HMN:=lh hmn
    have HML:=lh hml
    have HC:=lh hc
    clear hmn hml hc
    by_cases hil:i<W.length
    ·obtain⟨wg,wcc,fa,fc,ewo,u0,u1,ur⟩:=nest_face HNW.out rfl hil
     simp only[Value.slice.injEq] at ewo
     obtain⟨rfl,-,rfl⟩:=ewo
     have hng:wg≠lb:=fun e=>HL5.out.cell_ne u0 e
     have f0:=HC.out.cell u0 (by simpa using hng)
     have f1:=HC.out.cell u1 (by simpa using hng)
     have hfm:W.getD i (0,[])∈W:=by simp[List.getD,hil]
     have hfc:=HFC.out _ hfm
     have hpi:i<(Plain.places8 W).length:=by rw[HPL.out];exact hil
     have hpg:=Plain.places8_getD hil
     have HLX:=lh (fun j hj=>Plain.leftTo_next (ll:=ll) (W:=W) (j:=j) HPN.out hpi hj)
     have HLR:=lh (Plain.leftTo_row (ll:=ll) (W:=W) hpi)
     rw[hpg] at HLX HLR
     have UR:=lh ur.ints
     obtain⟨f,hf⟩:∃ f,W.getD i (0,[])=f:=⟨_,rfl⟩
     rw[hf] at f0 f1 hfc HLX HLR UR
     have hIK:I64 f.1:=by rcases hfc with ⟨-,h2,h3,-⟩ | ⟨d,l,h1,-,-,-,h4,-⟩ <;> exact I64.mk (by omega) (by omega)
     have HIK:=lh hIK
     have HNM:=lh (Plain.numOf_small ll f.1)
     obtain⟨num,hnum⟩:∃ num,Plain.numOf ll f.1=num:=⟨_,rfl⟩
     have HFN:Hid (((fun y=>(Plain.regionAt ll y).map fun (k:Nat)=>(k:Int)) f.1).getD 0=num):=lh hnum
     rw[hnum] at HLX HNM
     have IV:I64 num:=I64.mk (by have:=HNM.out;omega) (by have:=HNM.out;omega)
     have hfl:f.2.length≤1000000 - 1:=by
      rw[←hf]
      have h1:=HFL.out _ hfm
      omega
     clear u0 u1 ur hng hfm hpi hpg hnum hIK
     go_wp2
     clear f0 f1
     have hbx:=(Chg.refl [] wr).alloc (.cells #[.int .i64 f.1,.slice fa f.2.length fc] 120)
     have hnew:=heap_alloc_new wr (.cells #[.int .i64 f.1,.slice fa f.2.length fc] 120)
     have B0:=lh ((cell_of_row _ _ 0 _ _ _ hnew).trans (show _=some (Value.int .i64 f.1) from rfl))
     have B1:=lh ((cell_of_row _ _ 1 _ _ _ hnew).trans (show _=some (Value.slice fa f.2.length fc) from rfl))
     have b1:=B1.out
     have HCQ:=lh (HC.out.trans hbx (by simp))
     have HMNQ:=lh (HMN.out.chg hbx (by simp))
     have HMLQ:=lh (HML.out.chg hbx (by simp))
     have HWB:=lh (show lb<wr.heap.size from HML.out.lt)
     obtain⟨wb,hwb⟩:∃ wb,wr.heap.size=wb:=⟨_,rfl⟩
     rw[hwb] at B0 B1 b1 HWB ⊢
     generalize (wr.alloc (.cells #[.int .i64 f.1,.slice fa f.2.length fc] 120))=wq at *
     clear hbx hnew hwb
     go_wp2
     clear b1
     go_loopw [69] (fun c wi=>∃ j:Nat,j≤f.2.length∧c=.int .i64 j∧IMap wi nb (ll.length*1000000) (fun y=>(Plain.regionAt ll y).map fun (k:Nat)=>(k:Int))∧IMap wi lb (i*1000000+j) (Plain.leftTo ll W i j)∧Chg [lb] wq wi) (fun c _=>f.2.length - (intOf c).toNat)
     case atStart=>exact⟨0,Nat.zero_le _,rfl,HMNQ.out,HMLQ.out.mono (by omega),Chg.refl _ _⟩
     case round =>
      rename World=>wi
      obtain⟨j,hj,rfl,hmn,hml,hc⟩:=hrel
      have HMNJ:=lh hmn
      have HMLJ:=lh hml
      have HCJ:=lh hc
      have HC5J:=lh (HCQ.out.trans hc (fun j hj=>Or.inl hj))
      have hwbl:wb ∉ [lb]:=by have:=HWB.out;simp;omega
      have b0:=hc.cell B0.out hwbl
      have b1:=hc.cell B1.out hwbl
      clear hmn hml hc
      by_cases hjl:j<f.2.length
      ·obtain⟨rb,roff,rfl,rc⟩:=IntsAt.cellAt UR.out hjl
       have hne:rb≠lb:=fun e=>HL5.out.cell_ne rc e
       have rcell:=HC5J.out.cell rc (by simpa using hne)
       have IY:I64 (f.2.getD j 0):=by obtain⟨_,_,-,h,-,-⟩:=UR.out;exact h _ (Plain.getD_mem hjl)
       have hms:Plain.marks f=f.2:=Plain.marks_some (by intro e;rw[e] at hjl;simp at hjl)
       have HLJ:=lh (HLX.out j (by rw[hms];exact hjl))
       rw[hms] at HLJ
       obtain⟨y,hy⟩:∃ y,f.2.getD j 0=y:=⟨_,rfl⟩
       rw[hy] at rcell IY HLJ
       have hmx:i*1000000+j<maxLen:=by unfold maxLen;omega
       have hnl:nb ∉ [lb]:=by have:=HNLT.out;simp;omega
       have HNL:=lh hnl
       clear rc hne hy hms hnl b1
       go_wp2_with (first
        | (at_lookup;refine wp_look _ rfl _ _ rfl HMNJ.out rfl HIK.out rfl HFN ?_)
        | (at_mapUpdate;refine wp_store _ rfl _ _ _ rfl HMLJ.out hmx rfl IY IV rfl rfl ?_;intro w6 m6 g6;have M6:=lh m6;have G6:=lh g6;clear m6 g6))
       go_roundw
       case rel =>
        have hg:=(Chg.refl [lb] wi).grown G6.out (fun j hj=>by cases hj;exact Or.inl (by simp))
        exact⟨j+1,by omega,by go_num,HMNJ.out.chg hg HNL.out,by have:=M6.out;rw[HLJ.out] at this;exact this.mono (by omega),HCJ.out.trans hg (fun j hj=>Or.inl hj)⟩
       case measure=>simp[intOf];omega
      have e:j=f.2.length:=by omega
      subst e
      by_cases hl0:f.2=[]
      ·have hms:Plain.marks f=[f.1]:=Plain.marks_nil hl0
       have HLJ:=lh (HLX.out 0 (by rw[hms];simp))
       rw[hms] at HLJ HLR
       have hz0:f.2.length=0:=by rw[hl0];rfl
       rw[hz0] at HMLJ b1 ⊢
       have hmx:i*1000000+0<maxLen:=by unfold maxLen;omega
       have HNL:=lh (show nb ∉ [lb] by have:=HNLT.out;simp;omega)
       clear hms hl0 hjl hj
       go_wp2_with (first
        | (at_lookup;refine wp_look _ rfl _ _ rfl HMNJ.out rfl HIK.out rfl HFN ?_)
        | (at_mapUpdate;refine wp_store _ rfl _ _ _ rfl HMLJ.out hmx rfl HIK.out IV rfl rfl ?_;intro w6 m6 g6;have M6:=lh m6;have G6:=lh g6;clear m6 g6))
       go_roundw
       case rel =>
        have hg:=(Chg.refl [lb] wi).grown G6.out (fun j hj=>by cases hj;exact Or.inl (by simp))
        exact⟨i+1,by omega,by go_num,HMNJ.out.chg hg HNL.out,by have:=M6.out;rw[show ([f.1]:List Int).getD 0 0=f.1 from rfl] at HLJ;rw[HLJ.out] at this;rw[←HLR.out];exact this.mono (by omega),HC5J.out.trans hg (fun j hj=>Or.inl hj)⟩
       case measure=>simp[intOf];omega
      have hms:Plain.marks f=f.2:=Plain.marks_some hl0
      rw[hms] at HLR
      have bl:((f.2.length:Int)==0)=false:=by
       rw[beq_eq_false_iff_ne]
       have:=List.length_pos_iff.2 hl0
       omega
      clear hms hl0
      go_wp2
      go_roundw
      case rel=>exact⟨i+1,by omega,by go_num,HMNJ.out,by rw[←HLR.out];exact HMLJ.out.mono (by omega),HC5J.out⟩
      case measure=>simp[intOf];omega
    have e:i=W.length:=by omega
    subst e
    rw[←HPL.out,HLFA.out] at HML
    have HMF:=lh (HML.out.mono (show (Plain.places8 W).length*1000000≤1000000000000 by rw[HPL.out];omega))
    have HCF:=lh (HW5.out.trans HC.out (fun j hj=>Or.inr (by simp at hj;have:=HLB.out;omega)))
    go_wp2
    exact bodyPost_ret (v:=.tuple #[.map (some lb),.int .i64 0]) (by simp[results,Tryz.results87,go_sem]) rfl ⟨_,by rw[HPZ.out],fun h=>absurd HPZ.out h,fun _=>⟨lb,rfl,HLB.out,by rw[HWE.out,←HLE.out];exact HMF.out,by rw[←HLE.out];exact hlln⟩,HCF.out⟩
 have hov:=herr hz
 subst hov
 have hzb:((Plain.planErr g p turn same) != 0)=true:=by simp[hz]
 clear hres herr
 obtain⟨er,her⟩:∃ er,Plain.planErr g p turn same=er:=⟨_,rfl⟩
 have HER:=lh her
 rw[her] at hzb hz ⊢
 have HNZ:=lh hz
 clear hz her
 go_wp2
 exact bodyPost_ret (v:=.tuple #[.map none,.int .i64 er]) (by simp[results,Tryz.results87,go_sem]) rfl ⟨_,by rw[HER.out],fun _=>rfl,fun h=>absurd (HER.out.symm.trans h) HNZ.out,HW2.out⟩
namespace Plain
end Plain
end Go.Proofs.YtkacjmoamgjfpaaGreat
namespace Go.Proofs.YtkacjmoamgjfpaaGreat.Plain
def lf (L:Int→Option Int) (d:Int):Int:=(L d).getD 0
def sideJoin (L:Int→Option Int) (p:Pt) (cy:List Int):Nat→St
 | 0=>⟨[],[]⟩
 | k+1=>if p.e.getD k 0∈cy.map (· / 2) then sideJoin L p cy k else (sideJoin L p cy k).join (lf L (2*p.e.getD k 0)) (lf L (2*p.e.getD k 0+1))
def sideHead (L:Int→Option Int) (cy:List Int):Int:=lf L (cy.getD 0 0)
theorem sideJoin_on {L:Int→Option Int} {p:Pt} {cy:List Int} {k:Nat} (h:p.e.getD k 0∈cy.map (· / 2)):sideJoin L p cy (k+1)=sideJoin L p cy k:=if_pos h
theorem sideJoin_off {L:Int→Option Int} {p:Pt} {cy:List Int} {k:Nat} (h:p.e.getD k 0 ∉ cy.map (· / 2)):sideJoin L p cy (k+1)=(sideJoin L p cy k).join (lf L (2*p.e.getD k 0)) (lf L (2*p.e.getD k 0+1)):=if_neg h
theorem join_len (s:St) (x y:Int):(s.join x y).all.length≤s.all.length+2:=by
 rw[St.join_eq]
 have h1:=(s.len_put x).2
 have h2:=((s.put x).len_put y).2
 show ((s.put x).put y).all.length≤_
 omega
theorem numOf_i64 {L:Int→Option Int} (h:∀ y v,L y=some v→0≤v∧v<1000000000) (y:Int):0≤lf L y∧lf L y<1000000000:=by
 unfold lf
 cases e:L y with
 | none=>exact⟨by simp,by simp⟩
 | some v=>exact h y v e
theorem leftOf_small {ll:List (List Int)} (W:List Face) (hl:ll.length≤30000) (y v:Int) (h:leftOf ll W y=some v):0≤v∧v<1000000000:=by
 unfold leftOf at h
 cases e:regionAt (places8 W) y with
 | none=>rw[e] at h;cases h
 | some k =>
  rw[e] at h
  simp only[Option.map_some,Option.some.injEq] at h
  have:=numOf_small ll (W.getD k (0,[])).1
  omega
end Go.Proofs.YtkacjmoamgjfpaaGreat.Plain
namespace Go.Proofs.YtkacjmoamgjfpaaGreat
open Go.RowKit Go.Maps
theorem Own.chg' {w wr:World} {pb:Nat} {s:St} (h:Own w pb s wr):Chg [] w wr:=by obtain⟨own,-,h2,-⟩:=h;exact h2
theorem own_joins {w wr:World} {pb:Nat} {s:St} {x y:Int} (hx:I64 x) (hy:I64 y) (hn:s.all.length<17179869184) (h:Own w pb s wr) :
  Calls Tryz.prog 69 #[.pointer (some ⟨pb,0,none⟩),.int .i64 x,.int .i64 y] wr fun e w'=>e=.returned (.bool (s.joins x y))∧Own w pb (s.join x y) w':=by
 obtain⟨own,h1,h2,h3⟩:=h
 exact (join_any pb own s x y wr hx hy hn h1).mono fun e w' q=>⟨q.1,Own.turn h2 h3 q.2⟩
def SNow (a:World) (pb sb r:Nat) (s:St) (w:World):Prop:=∃ own,SetsObj w pb own s∧(∀ j∈own,a.heap.size≤j∧j≠sb∧j≠r)∧a.heap.size≤sb∧sb<w.heap.size∧r<w.heap.size
theorem SNow.chg {a w w':World} {pb sb r:Nat} {s:St} {l:List Nat} (h:SNow a pb sb r s w) (hc:Chg l w w') (hl:∀ j∈l,j=sb∨j=r):SNow a pb sb r s w':=by
 obtain⟨own,h1,h2,h5,h3,h4⟩:=h
 have:=hc.size
 exact⟨own,h1.chg hc (fun b hb q=>(hl b q).elim (h2 b hb).2.1 (h2 b hb).2.2),h2,h5,by omega,by omega⟩
theorem ranges_chg {w w':World} {b r n:Nat} {D:DataW Unit} {left:Lit→Bool} {cnt:Nat} {l:List Nat} (h:w.ranges Tryz.prog 3 (plainElem Tryz.prog 3) b r n D left cnt) (hc:Chg l w w') (hb:b ∉ l) (hr:r ∉ l):w'.ranges Tryz.prog 3 (plainElem Tryz.prog 3) b r n D left cnt:=by
 obtain⟨es,clock,since,seen,c0,h1,F,hs,hD,h2,rest⟩:=h
 exact⟨es,clock,since,seen,c0,hc.heap h1 hb,F,hs,hD,hc.heap h2 hr,rest⟩
end Go.Proofs.YtkacjmoamgjfpaaGreat
namespace Go.Proofs.YtkacjmoamgjfpaaGreat.Plain
def seat (turn:List (List Int)) (v:Int):Int:=if 0<(turnAt turn v).length then (turnAt turn v).getD 0 0 else -1 - v
end Go.Proofs.YtkacjmoamgjfpaaGreat.Plain
namespace Go.Proofs.YtkacjmoamgjfpaaGreat
open Go.RowKit Go.Maps
end Go.Proofs.YtkacjmoamgjfpaaGreat
namespace Go.Proofs.YtkacjmoamgjfpaaGreat
def St.rel (s:St) (x y:Int):Prop:=x=y∨s.same x y=true
theorem St.same_iff {s:St} {x y:Int}:s.same x y=true↔x∈s.all∧y∈s.all∧s.hd (s.all.idxOf x)=s.hd (s.all.idxOf y):=by
 unfold St.same
 rw[Bool.and_eq_true,Bool.and_eq_true,decide_eq_true_iff,decide_eq_true_iff,beq_iff_eq,and_assoc]
theorem St.rel_refl (s:St) (x:Int):s.rel x x:=Or.inl rfl
theorem St.rel_symm {s:St} {x y:Int} (h:s.rel x y):s.rel y x:=by
 rcases h with h | h
 ·exact Or.inl h.symm
 obtain⟨h1,h2,h3⟩:=St.same_iff.1 h
 exact Or.inr (St.same_iff.2 ⟨h2,h1,h3.symm⟩)
theorem St.rel_trans {s:St} {x y z:Int} (h:s.rel x y) (k:s.rel y z):s.rel x z:=by
 rcases h with rfl | h
 ·exact k
 rcases k with rfl | k
 ·exact Or.inr h
 obtain⟨h1,h2,h3⟩:=St.same_iff.1 h
 obtain⟨k1,k2,k3⟩:=St.same_iff.1 k
 exact Or.inr (St.same_iff.2 ⟨h1,k2,h3.trans k3⟩)
theorem St.rel_nil {x y:Int}:St.rel ⟨[],[]⟩ x y↔x=y:=by simp[St.rel,St.same]
theorem St.hd_put_old {s:St} (hs:s.Ok) {a x:Int} (hx:x∈s.all):(s.put a).hd ((s.put a).all.idxOf x)=s.hd (s.all.idxOf x):=by
 rw[St.idx_put_of a hx]
 by_cases h:a∈s.all
 ·rw[St.put_in h]
 rw[St.put_new h]
 have h1:=St.Ok.idx_lt hx
 have h2:=hs.len
 unfold St.hd List.getD
 rw[List.getElem?_append_left (by omega)]
theorem St.hd_put_new {s:St} (hs:s.Ok) {a:Int} (h:a ∉ s.all):(s.put a).hd ((s.put a).all.idxOf a)=s.all.length:=by
 rw[St.put_new h]
 simp[St.hd,List.getD,List.idxOf_append,h,hs.len]
theorem St.rel_put {s:St} (hs:s.Ok) (a x y:Int):(s.put a).rel x y↔s.rel x y:=by
 by_cases h:a∈s.all
 ·rw[St.put_in h]
 constructor
 ·rintro (rfl | hxy)
  ·exact Or.inl rfl
  obtain⟨m1,m2,h3⟩:=St.same_iff.1 hxy
  have n1:x∈s.all∨x=a:=by rw[St.put_new h] at m1;simpa using m1
  have n2:y∈s.all∨y=a:=by rw[St.put_new h] at m2;simpa using m2
  clear m1 m2 hxy
  rcases n1 with h1 | rfl
  ·rcases n2 with h2 | rfl
   ·rw[St.hd_put_old hs h1,St.hd_put_old hs h2] at h3
    exact Or.inr (St.same_iff.2 ⟨h1,h2,h3⟩)
   rw[St.hd_put_old hs h1,St.hd_put_new hs h] at h3
   have:=hs.hd_lt h1
   omega
  rcases n2 with h2 | rfl
  ·rw[St.hd_put_new hs h,St.hd_put_old hs h2] at h3
   have:=hs.hd_lt h2
   omega
  exact Or.inl rfl
 rintro (rfl | hxy)
 ·exact Or.inl rfl
 obtain⟨h1,h2,h3⟩:=St.same_iff.1 hxy
 exact Or.inr (St.same_iff.2 ⟨St.mem_put_of a h1,St.mem_put_of a h2,by rw[St.hd_put_old hs h1,St.hd_put_old hs h2];exact h3⟩)
theorem St.rel_at {s:St} {x y:Int} (h:s.rel x y) (hy:y∈s.all):x∈s.all∧s.hd (s.all.idxOf x)=s.hd (s.all.idxOf y):=by
 rcases h with rfl | h
 ·exact⟨hy,rfl⟩
 obtain⟨h1,-,h3⟩:=St.same_iff.1 h
 exact⟨h1,h3⟩
theorem St.rel_join {s:St} (hs:s.Ok) (a b x y:Int):(s.join a b).rel x y↔s.rel x y∨(s.rel x a∧s.rel b y)∨(s.rel x b∧s.rel a y):=by
 have ht:=(hs.put a).put b
 have hm:=s.put_put_mem a b
 have hr:∀ u v,s.rel u v↔((s.put a).put b).rel u v:=fun u v=>by rw[St.rel_put (hs.put a),St.rel_put hs]
 rw[hr x y,hr x a,hr b y,hr x b,hr a y]
 have hj:s.join a b=⟨((s.put a).put b).all,relabel ((s.put a).put b).grp (((s.put a).put b).hd (((s.put a).put b).all.idxOf a)) (((s.put a).put b).hd (((s.put a).put b).all.idxOf b))⟩:=rfl
 rw[hj]
 clear hj hr
 generalize (s.put a).put b=t at *
 obtain⟨ha,hb⟩:=hm
 obtain⟨A,hA⟩:∃ A,t.hd (t.all.idxOf a)=A:=⟨_,rfl⟩
 obtain⟨B,hB⟩:∃ B,t.hd (t.all.idxOf b)=B:=⟨_,rfl⟩
 rw[hA,hB]
 have hh:∀ {u:Int},u∈t.all→St.hd ⟨t.all,relabel t.grp A B⟩ (t.all.idxOf u)=if t.hd (t.all.idxOf u)=max A B then min A B else t.hd (t.all.idxOf u):=by
  intro u hu
  unfold relabel St.hd
  exact getD_map _ _ _ (by rw[←ht.len];exact St.Ok.idx_lt hu)
 constructor
 ·rintro (rfl | h)
  ·exact Or.inl (Or.inl rfl)
  obtain⟨h1,h2,h3⟩:=St.same_iff.1 h
  have h1:x∈t.all:=h1
  have h2:y∈t.all:=h2
  replace h3:St.hd ⟨t.all,relabel t.grp A B⟩ (t.all.idxOf x)=St.hd ⟨t.all,relabel t.grp A B⟩ (t.all.idxOf y):=h3
  rw[hh h1,hh h2] at h3
  by_cases e:t.hd (t.all.idxOf x)=t.hd (t.all.idxOf y)
  ·exact Or.inl (Or.inr (St.same_iff.2 ⟨h1,h2,e⟩))
  have h4:(t.hd (t.all.idxOf x)=A∧t.hd (t.all.idxOf y)=B)∨(t.hd (t.all.idxOf x)=B∧t.hd (t.all.idxOf y)=A):=by
   split at h3 <;> split at h3 <;> omega
  rcases h4 with ⟨e1,e2⟩ | ⟨e1,e2⟩
  ·exact Or.inr (Or.inl ⟨Or.inr (St.same_iff.2 ⟨h1,ha,e1.trans hA.symm⟩),Or.inr (St.same_iff.2 ⟨hb,h2,hB.trans e2.symm⟩)⟩)
  exact Or.inr (Or.inr ⟨Or.inr (St.same_iff.2 ⟨h1,hb,e1.trans hB.symm⟩),Or.inr (St.same_iff.2 ⟨ha,h2,hA.trans e2.symm⟩)⟩)
 have mk:∀ {u v:Int},u∈t.all→v∈t.all→(if t.hd (t.all.idxOf u)=max A B then min A B else t.hd (t.all.idxOf u))=(if t.hd (t.all.idxOf v)=max A B then min A B else t.hd (t.all.idxOf v))→St.rel ⟨t.all,relabel t.grp A B⟩ u v:=fun {u v} h1 h2 h3 =>
  Or.inr (St.same_iff.2 ⟨h1,h2,by show St.hd ⟨t.all,relabel t.grp A B⟩ (t.all.idxOf u)=St.hd ⟨t.all,relabel t.grp A B⟩ (t.all.idxOf v);rw[hh h1,hh h2];exact h3⟩)
 rintro (h | ⟨h1,h2⟩ | ⟨h1,h2⟩)
 ·rcases h with rfl | h
  ·exact Or.inl rfl
  obtain⟨h1,h2,h3⟩:=St.same_iff.1 h
  exact mk h1 h2 (by rw[h3])
 ·obtain⟨k1,k2⟩:=St.rel_at h1 ha
  obtain⟨k3,k4⟩:=St.rel_at (St.rel_symm h2) hb
  refine mk k1 k3 ?_
  rw[k2,k4,hA,hB]
  split <;> split <;> omega
 obtain⟨k1,k2⟩:=St.rel_at h1 hb
 obtain⟨k3,k4⟩:=St.rel_at (St.rel_symm h2) ha
 refine mk k1 k3 ?_
 rw[k2,k4,hA,hB]
 split <;> split <;> omega
theorem St.rel_joined {s:St} (hs:s.Ok) (a b:Int):(s.join a b).rel a b:=(St.rel_join hs a b a b).2 (Or.inr (Or.inl ⟨s.rel_refl a,s.rel_refl b⟩))
end Go.Proofs.YtkacjmoamgjfpaaGreat
namespace Go.Proofs.YtkacjmoamgjfpaaGreat.Plain
def g1:Gr:=⟨4,[(0,1),(1,2),(2,0)]⟩
def p1:Pt:=⟨[0,1,2,3],[0,1,2]⟩
def t1:List (List Int):=[[0,5],[1,2],[3,4],[]]
def w1:List Face:=[(-4,[]),(0,[0,2,4]),(1,[1,5,3])]
theorem err1:p1.err g1=0:=by decide
theorem part1:PartOk g1 p1:=Pt.ok_of_err err1
theorem near1 {u w:Int} (h:Near g1 p1 u w):(u=0∧w=1)∨(u=1∧w=2)∨(u=2∧w=0)∨(u=1∧w=0)∨(u=2∧w=1)∨(u=0∧w=2):=by
 obtain⟨e,he,h⟩:=h
 simp only[p1,List.mem_cons,List.not_mem_nil,or_false] at he
 have q0:g1.at 0=(0,1):=rfl
 have q1:g1.at 1=(1,2):=rfl
 have q2:g1.at 2=(2,0):=rfl
 rcases he with rfl | rfl | rfl
 ·rw[q0] at h;simp only[Prod.mk.injEq] at h;omega
 ·rw[q1] at h;simp only[Prod.mk.injEq] at h;omega
 rw[q2] at h;simp only[Prod.mk.injEq] at h;omega
theorem near01:Near g1 p1 0 1:=⟨0,by decide,Or.inl rfl⟩
theorem near02:Near g1 p1 0 2:=⟨2,by decide,Or.inr rfl⟩
theorem come1 (u:Int):u∈([0,1,2]:List Int)↔Come g1 p1 (-1) 0 u:=by
 refine come_iff (by decide) (fun u hu=>?_) (fun u hu w hw _=>?_) u
 ·simp only[List.mem_cons,List.not_mem_nil,or_false] at hu
  rcases hu with rfl | rfl | rfl
  ·exact .here
  ·exact Come.step .here near01 (by decide)
  exact Come.step .here near02 (by decide)
 have:=near1 hw
 simp only[List.mem_cons,List.not_mem_nil,or_false]
 omega
theorem come3 (u:Int):u∈([3]:List Int)↔Come g1 p1 (-1) 3 u:=by
 refine come_iff (by decide) (fun u hu=>?_) (fun u hu w hw _=>?_) u
 ·rw[List.mem_singleton.1 hu];exact .here
 have:=near1 hw
 rw[List.mem_singleton.1 hu] at this
 omega
theorem comp1:comp g1 p1 0=[0,1,2]:=by
 have:comp g1 p1 0=p1.v.filter fun u=>decide (u∈([0,1,2]:List Int)):=by
  unfold comp
  exact List.filter_congr fun u _=>by rw[decide_eq_decide];exact (come1 u).symm
 rw[this];decide
theorem comp3:comp g1 p1 3=[3]:=by
 have:comp g1 p1 3=p1.v.filter fun u=>decide (u∈([3]:List Int)):=by
  unfold comp
  exact List.filter_congr fun u _=>by rw[decide_eq_decide];exact (come3 u).symm
 rw[this];decide
theorem roots1:roots g1 p1=[0,3]:=by
 have h1:∀ v:Int,v∈p1.v→((∀ u∈p1.v,Come g1 p1 (-1) v u→v≤u)↔v=0∨v=3):=by
  intro v hv
  constructor
  ·intro h
   simp only[p1,List.mem_cons,List.not_mem_nil,or_false] at hv
   rcases hv with rfl | rfl | rfl | rfl
   ·exact Or.inl rfl
   ·have:=h 0 (by decide) (((come1 1).1 (by decide)).symm (by decide)).2;omega
   ·have:=h 0 (by decide) (((come1 2).1 (by decide)).symm (by decide)).2;omega
   exact Or.inr rfl
  rintro (rfl | rfl)
  ·intro u hu _
   simp only[p1,List.mem_cons,List.not_mem_nil,or_false] at hu
   omega
  intro u _ hc
  have:=(come3 u).2 hc
  simp only[List.mem_cons,List.not_mem_nil,or_false] at this
  omega
 have:roots g1 p1=p1.v.filter fun v=>decide (v=0∨v=3):=by
  unfold roots
  exact List.filter_congr fun u hu=>by rw[decide_eq_decide];exact h1 u hu
 rw[this];decide
theorem turns1:TurnsOk g1 p1 t1:=by
 refine turns_of_rows part1 rfl fun v hv=>?_
 have hv:(v:Int)<4:=hv
 rcases (show v=0∨v=1∨v=2∨v=3 by omega) with rfl | rfl | rfl | rfl <;> (unfold rowOk;decide)
theorem trk1:Trk g1 p1 t1 [(0,[0,2,4]),(1,[1,5,3])] p1.darts:=by
 refine⟨⟨fun c hc=>?_,by decide⟩,by decide,fun f hf=>?_,by decide,fun f hf=>?_,by decide⟩
 ·simp only[List.map_cons,List.map_nil,List.mem_cons,List.not_mem_nil,or_false] at hc
  rcases hc with rfl | rfl
  ·exact⟨by decide,by decide,show nextDart g1 t1 4=0 by decide⟩
  exact⟨by decide,by decide,show nextDart g1 t1 3=1 by decide⟩
 ·simp only[List.mem_cons,List.not_mem_nil,or_false] at hf
  rcases hf with rfl | rfl
  ·exact⟨_,rfl⟩
  exact⟨_,rfl⟩
 simp only[List.mem_cons,List.not_mem_nil,or_false] at hf
 rcases hf with rfl | rfl
 ·exact⟨[],[1,2,3,4,5],by decide,by decide⟩
 exact⟨[0],[2,3,4,5],by decide,by decide⟩
theorem walks1:WalksOk g1 p1 t1 w1:=trk1.walks part1
theorem walksOf1:walksOf g1 p1 t1=w1:=(walks1.eq err1).symm
theorem turnErr1:turnErr g1 p1 t1=0:=turnErr_ok err1 turns1
theorem flat1:Flat g1 p1 t1:=by
 intro r hr
 rw[walksOf1]
 rw[roots1] at hr
 unfold genusAt
 simp only[List.mem_cons,List.not_mem_nil,or_false] at hr
 rcases hr with rfl | rfl
 ·rw[comp1];decide
 rw[comp3];decide
theorem flatErr1:flatErr g1 p1 t1=0:=flatErr_ok turnErr1 flat1
theorem pieceIx10:pieceIx g1 p1 0=0:=pieceIx_eq part1 (by rw[roots1];decide) (by rw[roots1];show (0:Int)∈comp g1 p1 0;rw[comp1];decide)
theorem pieceIx11:pieceIx g1 p1 1=0:=pieceIx_eq part1 (by rw[roots1];decide) (by rw[roots1];show (1:Int)∈comp g1 p1 0;rw[comp1];decide)
theorem pieceIx13:pieceIx g1 p1 3=1:=pieceIx_eq part1 (by rw[roots1];decide) (by rw[roots1];show (3:Int)∈comp g1 p1 3;rw[comp3];decide)
theorem owner14:ownerOf g1 p1 w1 (-4)=some 1:=by
 have:ownerOf g1 p1 w1 (-4)=some ((pieceIx g1 p1 3:Nat):Int):=rfl
 rw[this,pieceIx13];rfl
theorem owner10:ownerOf g1 p1 w1 0=some 0:=by
 have:ownerOf g1 p1 w1 0=some ((pieceIx g1 p1 0:Nat):Int):=rfl
 rw[this,pieceIx10];rfl
theorem owner11:ownerOf g1 p1 w1 1=some 0:=by
 have:ownerOf g1 p1 w1 1=some ((pieceIx g1 p1 1:Nat):Int):=rfl
 rw[this,pieceIx11];rfl
theorem run1 {k:Int} (hk:k=0∨k=1):sameRun (ownerOf g1 p1 w1) [[-4,k]] (St.new (upTo 2),[]) 1=some ((St.new (upTo 2)).join 1 0,[-4,k]):=by
 have ho:ownerOf g1 p1 w1 k=some 0:=by rcases hk with rfl | rfl;exact owner10;exact owner11
 refine sameRun_next (c:=(St.new (upTo 2),[])) rfl ?_ ?_
 ·rcases hk with rfl | rfl <;> decide
 refine listRun_next (c:=(St.new (upTo 2),[-4])) (k:=1) ?_ ?_
 ·refine listRun_next (c:=(St.new (upTo 2),[])) (k:=0) rfl ?_
  exact keyStep_first (a:=1) owner14 (by simp)
 refine keyStep_join (a:=0) (b:=1) (by decide) ho ?_ ?_ ?_ (by decide)
 ·rcases hk with rfl | rfl <;> decide
 ·rcases hk with rfl | rfl <;> decide
 show (ownerOf g1 p1 w1 (-4)).getD 0=1
 rw[owner14];rfl
theorem plan1w {k:Int} (hk:k=0∨k=1):planErr g1 p1 t1 [[-4,k]]=0:=by
 rw[planErr_run flatErr1,roots1,walksOf1]
 show (match sameRun (ownerOf g1 p1 w1) [[-4,k]] (St.new (upTo 2),[]) 1 with | none=>(7:Int) | some c=>if 1<c.1.count then 7 else 0)=0
 rw[run1 hk]
 show (if 1<((St.new (upTo 2)).join 1 0).count then (7:Int) else 0)=0
 decide
end Go.Proofs.YtkacjmoamgjfpaaGreat.Plain
