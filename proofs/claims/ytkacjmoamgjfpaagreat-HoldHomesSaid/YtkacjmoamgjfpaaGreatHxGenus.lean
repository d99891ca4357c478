/- package face: the contract of Genus. Conditions: lists that lie in memory and read so, of a bounded size. -/
import Derived.Test.YtkacjmoamgjfpaaGreatHxWalkU
import Derived.Test.YtkacjmoamgjfpaaGreatHxWalks
namespace Go.Proofs.YtkacjmoamgjfpaaGreat
open Go.RowKit Go.Maps
namespace Plain
noncomputable def cnts (g:Gr) (p:Pt) (W:List Face) (R:List Int) (k:Nat):List Int:=R.map fun r=>(((W.take k).filter fun f=>decide (f.corner g∈comp g p r)).length:Int)
theorem cnts_zero (g:Gr) (p:Pt) (W:List Face) (R:List Int):cnts g p W R 0=List.replicate R.length 0:=by
 unfold cnts
 rw[List.take_zero]
 simp[List.map_const']
theorem cnts_length (g:Gr) (p:Pt) (W:List Face) (R:List Int) (k:Nat):(cnts g p W R k).length=R.length:=by simp[cnts]
theorem cnts_at {g:Gr} {p:Pt} {W:List Face} {R:List Int} {k n:Nat} (hn:n<R.length):(cnts g p W R k).getD n 0=(((W.take k).filter fun f=>decide (f.corner g∈comp g p (R.getD n 0))).length:Int):=by
 unfold cnts
 simp[List.getD,hn]
theorem take_face {W:List Face} {k:Nat} (hk:k<W.length):W.take (k+1)=W.take k++[W.getD k (0,[])]:=by
 rw[List.take_succ_eq_append_getElem hk]
 simp[List.getD,hk]
theorem cnts_step {g:Gr} {p:Pt} {W:List Face} {R:List Int} {k n:Nat} (hk:k<W.length) (hn:n<R.length) (hc:(W.getD k (0,[])).corner g∈comp g p (R.getD n 0)) (hu:∀ m,m<R.length→(W.getD k (0,[])).corner g∈comp g p (R.getD m 0)→m=n) :
  cnts g p W R (k+1)=(cnts g p W R k).set n ((cnts g p W R k).getD n 0+1):=by
 refine List.ext_getElem (by simp[cnts]) fun m h1 h2=>?_
 rw[cnts_length] at h1
 have e1:(cnts g p W R (k+1))[m]'(by rw[cnts_length];exact h1)=(cnts g p W R (k+1)).getD m 0:=by simp[List.getD,cnts_length,h1]
 rw[e1,cnts_at h1,take_face hk,List.filter_append,List.length_append,List.getElem_set]
 by_cases e:n=m
 ·subst e
  rw[if_pos rfl,cnts_at hn,List.filter_cons_of_pos (by simpa using hc)]
  simp
 rw[if_neg e,List.filter_cons_of_neg (by intro q;exact e (hu m h1 (of_decide_eq_true q)).symm)]
 have e2:(cnts g p W R k)[m]'(by rw[cnts_length];exact h1)=(cnts g p W R k).getD m 0:=by simp[List.getD,cnts_length,h1]
 rw[e2,cnts_at h1]
 simp
theorem cnts_le (g:Gr) (p:Pt) (W:List Face) (R:List Int) (k n:Nat):0≤(cnts g p W R k).getD n 0∧(cnts g p W R k).getD n 0≤(W.length:Int):=by
 by_cases hn:n<R.length
 ·rw[cnts_at hn]
  refine⟨by omega,?_⟩
  have h1:=List.length_filter_le (fun f:Face=>decide (f.corner g∈comp g p (R.getD n 0))) (W.take k)
  rw[List.length_take] at h1
  omega
 have:(cnts g p W R k).getD n 0=0:=by simp[List.getD,cnts_length,Nat.not_lt.1 hn]
 rw[this];omega
theorem WalksOk.len {g:Gr} {p:Pt} {turn:List (List Int)} {W:List Face} (h:WalksOk g p turn W):W.length≤p.v.length+2*p.e.length:=by
 obtain⟨F,rfl,ht⟩:=h.split
 have h1:(loneAt turn p.v).length≤p.v.length:=by
  unfold loneAt
  rw[List.length_map]
  refine Nat.le_trans (List.length_filter_le _ _) ?_
  rw[List.length_reverse]
  exact Nat.le_refl _
 have h2:=ht.keys.length_le
 rw[List.length_map,darts_length] at h2
 rw[List.length_append]
 omega
theorem genus_eq {g:Gr} {p:Pt} (h:PartOk g p) (W:List Face) {R:List Int} {n:Nat} (hn:n<R.length) :
  (2 - ((comp g p (R.getD n 0)).length:Int)+(((p.sub g (comp g p (R.getD n 0))).e).length:Int) - (cnts g p W R W.length).getD n 0).tdiv 2=genusAt g p W (R.getD n 0):=by
 unfold genusAt
 rw[cnts_at hn,List.take_length,sub_edges h]
end Plain
theorem row_cell {w:World} {B g n c i:Nat} {l:List Int} (h:RowAt w B (.slice (some ⟨g,0,none⟩) n c) l) (hi:i<l.length):w.cell? ⟨g,i,none⟩=some (.int .i64 (l.getD i 0)):=by
 obtain⟨g',e,hc⟩:=h.some (by omega)
 simp only[Option.some.injEq,Addr.mk.injEq] at e
 obtain⟨rfl,-,-⟩:=e
 exact hc i hi
theorem row_made {w:World} {B fb n c:Nat} (h:w.ownsRow B 3 1 (.slice (some ⟨fb,0,none⟩) n c) n (madeCells (Value.int .i64 0).cells (n*1)).toList) (hn:n<4294967296):RowAt w B (.slice (some ⟨fb,0,none⟩) n c) (List.replicate n 0):=by
 have e1:(madeCells (Value.int .i64 0).cells (n*1)).toList=ints (List.replicate n 0):=by
  show (madeCells #[Value.int .i64 0] (n*1)).toList=_
  rw[Nat.mul_one,toList_madeCells_one]
  simp[ints]
 rw[e1] at h
 refine⟨by rw[List.length_replicate];exact h,fun x hx=>?_,by rw[List.length_replicate];exact hn⟩
 have:=List.eq_of_mem_replicate hx
 subst this
 exact I64.mk (by omega) (by omega)
set_option maxRecDepth 100000 in
set_option maxHeartbeats 8000000 in
theorem genus_any (vg vp vt:Value) (g:Plain.Gr) (p:Plain.Pt) (turn:List (List Int)) (w:World) (hpl:p.e.length≤100000) (hpv:p.v.length≤100000) (hTL:turn.length<2147483648) (hS:Plain.sumLen turn turn.length<2147483648) (hg:GrAt w vg g) (hp:PtAt w vp p) (ht:RowsAt w vt turn) :
  Calls Tryz.prog 108 #[vg,vp,vt] w fun e w'=>∃ ov,e=.returned (.tuple #[ov,.int .i64 (Plain.turnErr g p turn)])∧(Plain.turnErr g p turn≠0→ov=.slice none 0 0) ∧
   (Plain.turnErr g p turn=0→∃ W,Plain.WalksOk g p turn W∧RowAt w' w.heap.size ov ((Plain.roots g p).map (Plain.genusAt g p W)))∧Chg [] w w':=by
 have HG:=lh hg
 have HP:=lh hp
 have HT:=lh ht
 have HSL:=lh hS
 obtain⟨eo,cap,rfl,hn,hm,hsm,hcell⟩:=hg
 obtain⟨v1,v2,rfl,hv,he⟩:=hp
 obtain⟨ao,ac,rfl,has,ham,hacell⟩:=hv
 obtain⟨bo,bc,rfl,hbs,hbm,hbcell⟩:=he
 obtain⟨tno,tc,rfl,htl,htc⟩:=ht
 obtain⟨hb1,hb2,hc1⟩:=box_two w #[.int .i64 g.n,.slice eo g.e.length cap] #[.slice ao p.v.length ac,.slice bo p.e.length bc] 24 29
 have X0:=lh ((cell_of_row _ _ 0 _ _ _ hb1).trans (show _=some (Value.int .i64 g.n) from rfl))
 have X1:=lh ((cell_of_row _ _ 1 _ _ _ hb1).trans (show _=some (Value.slice eo g.e.length cap) from rfl))
 have Y0:=lh ((cell_of_row _ _ 0 _ _ _ hb2).trans (show _=some (Value.slice ao p.v.length ac) from rfl))
 have Y1:=lh ((cell_of_row _ _ 1 _ _ _ hb2).trans (show _=some (Value.slice bo p.e.length bc) from rfl))
 have HC1:=lh hc1
 clear hcell hacell hbcell hsm hbs has hn hb1 hb2 hc1 htc hS
 go_enter Tryz.func108,Tryz.ntmps108
 go_wp2_with fail
 refine (walks_any _ _ _ g p turn _ (by omega) (by omega) hTL HSL.out (HG.out.fresh HC1.out) (HP.out.fresh HC1.out) (HT.out.fresh HC1.out)).mono ?_
 rintro e w2 ⟨ov,rfl,hr1,hr2,hc2⟩
 have HC2:=lh (HC1.out.trans hc2 (by simp))
 have HSZ2:=lh (show w.heap.size+2≤w2.heap.size by have:=hc2.size;simpa using this)
 have x0:=hc2.cell X0.out (by simp)
 have x1:=hc2.cell X1.out (by simp)
 have y0:=hc2.cell Y0.out (by simp)
 have y1:=hc2.cell Y1.out (by simp)
 clear hc2
 by_cases hr:Plain.turnErr g p turn=0
 ·have HR:=lh hr
  obtain⟨W,xw,hwk,hnw⟩:=hr2 hr
  have HWK:=lh hwk
  have HNW:=lh hnw
  obtain⟨wo,wc,rfl⟩:=hnw.shape
  have hpe:=(Plain.turnErr_zero hr).1
  have HPE:=lh hpe
  have HPO:=lh (Plain.Pt.ok_of_err hpe)
  have HEL:=lh (Plain.Gr.err_ok (Plain.Pt.err_ok hpe).1)
  have hwl:=hwk.len
  rw[hr]
  clear hr1 hr2 hwk hnw hpe
  go_wp2_with fail
  refine (pieces_any _ _ g p _ hpl hpv (HG.out.fresh HC2.out) (HP.out.fresh HC2.out)).mono ?_
  rintro e w3 ⟨ov3,rfl,-,hp2,hc3⟩
  obtain⟨xs,hnp⟩:=hp2 HPE.out
  have HPN0:=lh hnp
  obtain⟨uo,uc,rfl⟩:=hnp.shape
  have HC3:=lh (HC2.out.trans hc3 (by simp))
  have HNW3:=lh (HNW.out.fresh hc3)
  have X03:=lh (hc3.cell x0 (by simp))
  have X13:=lh (hc3.cell x1 (by simp))
  have y03:=hc3.cell y0 (by simp)
  have hmm:=fun n w=>run_makeMap_hint Tryz.underlying93 n w
  rw[HPE.out]
  have HSZ23:=lh hc3.size
  clear hp2 hc3 hnp x0 x1 y0 y1
  have hrl:(Plain.roots g p).length≤100000:=by rw[←Plain.rootsTo_all];exact Nat.le_trans (Plain.rootsTo_len g p _) hpv
  obtain⟨R,hRD⟩:∃ R,Plain.roots g p=R:=⟨_,rfl⟩
  have HRD:=lh hRD
  rw[hRD] at HPN0 hrl ⊢
  have HRR:=lh (show ∀ r∈R,r∈Plain.roots g p from fun r hr=>by rw[hRD];exact hr)
  have HRN:=lh (show R.Nodup by rw[←hRD];exact Plain.roots_nodup HPO.out)
  clear hRD
  go_wp2
  clear hmm y03
  have HPN:=HPN0
  have HM0:=lh (IMap.made w3)
  have HC4:=lh ((Chg.refl [] w3).alloc (.map #[] 0))
  obtain⟨pb,hpb⟩:∃ pb,w3.heap.size=pb:=⟨_,rfl⟩
  rw[hpb] at HM0 ⊢
  have HPB:=lh (show w3.heap.size≤pb by omega)
  have HSZ3:=lh (show w.heap.size+2≤w3.heap.size by have:=HSZ2.out;have:=HSZ23.out;omega)
  clear hpb
  generalize w3.alloc (.map #[] 0)=w4 at *
  go_loopw [48] (fun c wr=>∃ (i:Nat) (f:Int→Option Int),i≤R.length∧c=.int .i64 i∧IMap wr pb (i*1000000) f∧Hid (Plain.Told g p R i 0 f)∧Chg [] w3 wr) (fun c _=>R.length - (intOf c).toNat)
  case atStart=>exact⟨0,_,Nat.zero_le _,rfl,by rw[Nat.zero_mul];exact HM0.out,lh (Plain.Told.start g p R _),HC4.out⟩
  case round =>
   obtain⟨i,f,hi,rfl,hm,htold,hc⟩:=hrel
   have HM:=lh hm
   have HC:=lh hc
   by_cases hlt:i<R.length
   ·obtain⟨pg,pc,va,vc,ea,ec,hpe,hc1,hc2,hr1,hr2⟩:=nest_pair (HPN.out.fresh hc) rfl hlt
    simp only[Value.slice.injEq] at hpe
    obtain⟨rfl,-,rfl⟩:=hpe
    have HTN:=lh (fun j f hj h=>Plain.Told.next (g:=g) (p:=p) (R:=R) (i:=i) (j:=j) (f:=f) HPO.out HRR.out HRN.out hlt hj h)
    have HTR:=lh (fun f h=>Plain.Told.row (g:=g) (p:=p) (R:=R) (i:=i) (f:=f) h)
    have hcl:=Nat.le_trans (Plain.comp_len g p (R.getD i 0)) hpv
    have HCM:=lh (fun y (hy:y∈Plain.comp g p (R.getD i 0))=>HPO.out.vr y (Plain.mem_comp.1 hy).1)
    have HR1:=lh hr1.ints
    have HTD:Hid (∀ j f,Plain.Told g p R i j f→Plain.Told g p R i j f):=lh (fun _ _ h=>h)
    obtain⟨C,hC⟩:∃ C,Plain.comp g p (R.getD i 0)=C:=⟨_,rfl⟩
    obtain⟨E0,hE0⟩:∃ E0,(p.sub g (Plain.comp g p (R.getD i 0))).e=E0:=⟨_,rfl⟩
    have HCE:=lh hC
    rw[hC] at hc1 hcl HTN HTR HCM HR1
    rw[hE0] at hc2
    have II:I64 (i:Int):=I64.mk (by omega) (by omega)
    clear hr1 hr2 hm hc hC hE0
    go_wp2
    have HBX:=lh ((Chg.refl [] wr).alloc (.cells #[.slice va C.length vc,.slice ea E0.length ec] 29))
    have hbb:=(cell_of_row _ _ 0 _ _ _ (heap_alloc_new wr (.cells #[.slice va C.length vc,.slice ea E0.length ec] 29))).trans (show _=some (Value.slice va C.length vc) from rfl)
    have HM1:=lh (HM.out.chg HBX.out (by simp))
    have HC5:=lh (HC.out.trans HBX.out (by simp))
    have HR2:=lh (HR1.out.fresh HBX.out)
    clear hc1 hc2
    obtain⟨wb,hwb⟩:∃ wb,wr.heap.size=wb:=⟨_,rfl⟩
    generalize (wr.alloc (.cells #[.slice va C.length vc,.slice ea E0.length ec] 29))=wq at *
    rw[hwb] at hbb ⊢
    clear hwb
    go_loopw [56] (fun c wi=>∃ (j:Nat) (f:Int→Option Int),j≤C.length∧c=.int .i64 j∧IMap wi pb (i*1000000+j) f∧Hid (Plain.Told g p R i j f)∧Chg [pb] wq wi∧Chg [] w3 wi) (fun c _=>C.length - (intOf c).toNat)
    case atStart=>exact⟨0,f,Nat.zero_le _,rfl,HM1.out.mono (by omega),htold,Chg.refl _ _,HC5.out⟩
    case round =>
     obtain⟨j,f,hj,rfl,hm,htold,hch,hc⟩:=hrel
     have HMJ:=lh hm
     have HCJ:=lh hch
     have HC3J:=lh hc
     by_cases hltj:j<C.length
     ·obtain⟨ao',c',e,hsm',-,hcc⟩:=HR2.out
      obtain⟨vb,voff,e2,hcell⟩:=hcc (by intro e;rw[e] at hltj;simp at hltj)
      simp only[Value.slice.injEq] at e
      obtain⟨e3,-,-⟩:=e
      rw[e2] at e3
      subst e3
      have hne:vb≠pb:=fun e=>by have:=HM1.out.cell_ne (hcell j hltj);exact this e
      have cj:=hch.cell (hcell j hltj) (by simpa using hne)
      have IY:=hsm' (C.getD j 0) (Plain.getD_mem hltj)
      have HTJ:=lh (HTN.out j f hltj htold.out)
      obtain⟨y,hy⟩:∃ y,C.getD j 0=y:=⟨_,rfl⟩
      rw[hy] at cj IY HTJ
      have hmx:i*1000000+j<maxLen:=by unfold maxLen;omega
      clear hcell hcc hsm' hy hm hch hc hne
      go_wp2_with (at_mapUpdate;refine wp_store _ rfl _ _ _ rfl HMJ.out hmx rfl IY II rfl rfl ?_;intro w6 m6 g6;have M6:=lh m6;have G6:=lh g6;clear m6 g6)
      go_roundw
      case rel=>exact⟨j+1,_,by omega,by go_num,M6.out.mono (by omega),HTJ,HCJ.out.grown G6.out (fun j hj=>by cases hj;exact Or.inl (by simp)),HC3J.out.grown G6.out (fun j hj=>by cases hj;exact Or.inr HPB.out)⟩
      case measure=>simp[intOf];omega
     have e:j=C.length:=by omega
     subst e
     have HT2:=lh (HTR.out f htold.out)
     clear hm hch hc
     go_wp2
     go_roundw
     case rel=>exact⟨i+1,f,by omega,by go_num,HMJ.out.mono (by omega),HT2,HC3J.out⟩
     case measure=>simp[intOf];omega
   have e:i=R.length:=by omega
   subst e
   clear hm hc
   generalize wr=wz at *
   have HTOLD:Hid (∀ v∈p.v,∃ n,n<R.length∧f v=some (n:Int)∧v∈Plain.comp g p (R.getD n 0)):=lh (fun v hv=>by
    have h:=htold.out
    rw[←HRD.out] at h ⊢
    exact h.all HPO.out hv)
   have HSZZ:=lh (show w3.heap.size≤wz.heap.size from HC.out.size)
   clear hlt hi
   go_wp2_with (at_make;refine wp_make elemInt rfl _ _ rfl (B:=wz.heap.size) (n:=R.length) rfl rfl (Nat.le_refl _) (by omega) ?_;intro w5 ho5 hc5;have HO5:=lh (row_made ho5 (by omega));have HC5:=lh hc5;clear ho5 hc5)
   obtain⟨fb,hfb⟩:∃ fb,wz.heap.size=fb:=⟨_,rfl⟩
   have HFB:=lh hfb
   rw[hfb] at HO5 ⊢
   clear hfb
   go_loopw [70] (fun c wr=>∃ k:Nat,k≤W.length∧c=.int .i64 k∧RowAt wr fb (.slice (some ⟨fb,0,none⟩) R.length R.length) (Plain.cnts g p W R k)∧Chg [] wz wr) (fun c _=>W.length - (intOf c).toNat)
   case atStart=>exact⟨0,Nat.zero_le _,rfl,by rw[Plain.cnts_zero];exact HO5.out,HC5.out⟩
   case round =>
    obtain⟨k,hk,rfl,hrow,hc⟩:=hrel
    have HROW:=lh hrow
    have HCK:=lh hc
    have HC3K:=lh (HC.out.trans hc (by simp))
    by_cases hlt:k<W.length
    ·obtain⟨wg,wc',da,dc,hwe,hf1,hf2,hfr⟩:=nest_face (HNW3.out.fresh HC3K.out) rfl hlt
     simp only[Value.slice.injEq] at hwe
     obtain⟨rfl,-,rfl⟩:=hwe
     have hmem:W.getD k (0,[])∈W:=by simp[List.getD,hlt]
     have hcor:=Plain.corner_mem HPO.out HWK.out.faces _ hmem
     obtain⟨n,hnR,hfn,hnc⟩:=HTOLD.out _ hcor
     have HSTEP:=lh (Plain.cnts_step (g:=g) (p:=p) (R:=R) hlt hnR hnc (fun m hm h=>Plain.comp_one HPO.out HRR.out HRN.out hnR hm (Plain.mem_comp.1 hnc).2 h))
     have hkey:=HWK.out.faces.key _ hmem
     have hall:∀ d l,(W.getD k (0,[])).2=d :: l→d∈p.darts:=fun d l e=>HWK.out.faces.all.mem_iff.1 (List.mem_flatten.2 ⟨(W.getD k (0,[])).2,List.mem_map.2 ⟨_,List.mem_filter.2 ⟨hmem,by rw[e];rfl⟩,rfl⟩,by rw[e];simp⟩)
     have hcle:=Plain.cnts_le g p W R k n
     have hcl:=Plain.cnts_length g p W R k
     have IC:I64 ((W.getD k (0,[])).corner g):=by have:=HPO.out.vr _ hcor;have:=HEL.out;exact I64.mk (by omega) (by omega)
     have hlow:∀ l,(W.getD k (0,[])).2=l→l=[]→-1 - (W.getD k (0,[])).1=(W.getD k (0,[])).corner g:=fun l e e2=>by
      subst e2
      unfold Plain.Face.corner
      rw[e]
     have hhigh:∀ d l,(W.getD k (0,[])).2=d :: l→(W.getD k (0,[])).corner g=g.tail (W.getD k (0,[])).1:=fun d l e=>by
      unfold Plain.Face.corner
      rw[e]
     obtain⟨fc,hfc⟩:∃ fc,W.getD k (0,[])=fc:=⟨_,rfl⟩
     rw[hfc] at hf1 hf2 hfr hcor hfn hnc hkey hall IC hlow hhigh
     obtain⟨key,ds⟩:=fc
     dsimp only at hf1 hf2 hfr hkey hall hlow hhigh
     obtain⟨kv,hkv⟩:∃ kv,Plain.Face.corner g (key,ds)=kv:=⟨_,rfl⟩
     rw[hkv] at hcor hfn hnc IC hlow hhigh
     have HKEY:=lh hkey
     have HALL:=lh hall
     have HLOW:=lh hlow
     have HHIGH:=lh hhigh
     have HLT:=lh hlt
     have hkI:-9223372036854775000≤key∧key≤9223372036854775000:=by
      cases ds with
      | nil=>have:=hlow _ rfl rfl;have:=HPO.out.vr _ hcor;have:=HEL.out;omega
      | cons d l=>have h1:=hkey d l rfl;have h2:=Plain.dart_small HPE.out (hall d l rfl);omega
     have HFN:Hid ((f kv).getD 0=(n:Int)):=lh (by rw[hfn];rfl)
     have x0:=HC3K.out.cell X03.out (by simp)
     have x1:=HC3K.out.cell X13.out (by simp)
     obtain⟨dn,hdn⟩:∃ dn,ds.length=dn:=⟨_,rfl⟩
     have HDN:=lh hdn
     have hdnl:dn<4294967296:=by rw[←hdn];exact hfr.2.2
     rw[hdn] at hf2
     clear hkey hall hlow hhigh hfc hmem hrow hc hcor hfn hnc hfr hkv hdn
     go_upto_if 80 with fail
     have HBX:=lh ((Chg.refl [] wr).alloc (.cells #[.int .i64 key,.slice da dn dc] 120))
     have b0:=(cell_of_row _ _ 0 _ _ _ (heap_alloc_new wr (.cells #[.int .i64 key,.slice da dn dc] 120))).trans (show _=some (Value.int .i64 key) from rfl)
     have x0b:=HBX.out.cell x0 (by simp)
     have x1b:=HBX.out.cell x1 (by simp)
     have HWB:=lh (show wr.heap.size<(wr.alloc (.cells #[.int .i64 key,.slice da dn dc] 120)).heap.size by simp)
     have HROWB:=lh (HROW.out.chg HBX.out (by simp))
     clear hf1 hf2 x0 x1
     obtain⟨wb,hwb⟩:∃ wb,wr.heap.size=wb:=⟨_,rfl⟩
     generalize (wr.alloc (.cells #[.int .i64 key,.slice da dn dc] 120))=wq at *
     rw[hwb] at b0 ⊢
     clear hwb
     go_cut [19] (fun v wc=>v=.int .i64 kv∧Chg [] wq wc)
     case first =>
      by_cases h0:dn=0
      ·subst h0
       have hv:=HLOW.out ds rfl (List.length_eq_zero_iff.1 HDN.out)
       go_wp2
       go_meet
       case rel=>exact⟨by rw[hv],Chg.refl _ _⟩
      obtain⟨d,l,hdl⟩:∃ d l,ds=d :: l:=by
       cases ds with
       | nil=>exact absurd HDN.out.symm h0
       | cons d l=>exact⟨d,l,rfl⟩
      have hkd:=HKEY.out d l hdl
      have hdd:=HALL.out d l hdl
      have hcg:=HHIGH.out d l hdl
      subst hkd
      have hds:=Plain.dart_small HPE.out hdd
      obtain⟨kn,hkn⟩:∃ kn:Nat,key=(kn:Int):=⟨key.toNat,by omega⟩
      subst hkn
      have hke:kn / 2<g.e.length:=by
       rw[Plain.mem_darts] at hdd
       obtain⟨i',hi',e'⟩:=Plain.mem_getD hdd
       have:=Plain.rises_at (Plain.Pt.err_ok HPE.out).2.2.1 hi'
       omega
      have hel:g.e.length<4294967296:=by have:=HEL.out;omega
      have HKE:=lh hke
      clear hdd hke
      have h0':0<dn:=by omega
      clear h0 hdl
      go_wp2_with fail
      refine (leaves_any _ g kn _ HKE.out hel (HG.out.fresh ((HC3.out.trans HC3K.out (by simp)).trans HBX.out (by simp)))).mono ?_
      rintro e w9 ⟨rfl,hc9⟩
      have HC9:=lh hc9
      rw[←hcg]
      clear hc9 hcg
      go_wp2
      go_meet
      case rel=>exact⟨rfl,HC9.out⟩
     case rest =>
      obtain⟨rfl,hcc⟩:=hcut
      have HCC:=lh (HBX.out.trans hcc (by simp))
      have HMC:=lh (HM.out.chg (HCK.out.trans HCC.out (by simp)) (by simp))
      have HROWC:=lh (HROWB.out.chg hcc (by simp))
      have hnl:n<(Plain.cnts g p W R k).length:=by omega
      have cn:=row_cell HROWC.out hnl
      have zn:wc.frozen? ⟨fb,n,none⟩=false:=by
       have:=HROWC.out
       rw[←hcl] at this
       exact this.free (by omega) n
      have IX:I64 ((Plain.cnts g p W R k).getD n 0+1):=I64.mk (by omega) (by omega)
      have HSET:=lh (HROWC.out.set n ((Plain.cnts g p W R k).getD n 0+1) IX)
      rw[←HSTEP.out] at HSET
      clear hcc
      generalize (Plain.cnts g p W R k).getD n 0=z at *
      go_wp2_with (at_lookup;refine wp_look _ rfl _ _ rfl HMC.out rfl IC rfl HFN ?_)
      go_roundw
      case rel=>exact⟨k+1,by have:=HLT.out;omega,by go_num,HSET.out,(HCK.out.trans HCC.out (by simp)).setCell (Or.inr (by have:=HFB.out;simp;omega)) _⟩
      case measure=>have:=HLT.out;simp[intOf];omega
    have e:k=W.length:=by omega
    subst e
    have HCN:=HROW
    obtain⟨CN,hCN⟩:∃ CN,Plain.cnts g p W R W.length=CN:=⟨_,rfl⟩
    have HCNE:=lh hCN
    have hcl:CN.length=R.length:=by rw[←hCN];exact Plain.cnts_length g p W R _
    have hcle:∀ n,0≤CN.getD n 0∧CN.getD n 0≤(W.length:Int):=fun n=>by rw[←hCN];exact Plain.cnts_le g p W R _ n
    have HCL:=lh hcl
    have HCLE:=lh hcle
    rw[hCN] at HCN
    clear hCN hcl hcle hrow hc HROW hlt hk
    generalize wr=wy at *
    go_wp2
    go_loopw [20,96] (fun o c wr=>∃ i:Nat,i≤R.length∧c=.int .i64 i∧RowAt wr wy.heap.size o ((R.take i).map (Plain.genusAt g p W))∧Chg [] wy wr) (fun _ c _=>R.length - (intOf c).toNat)
    case atStart=>exact⟨0,Nat.zero_le _,rfl,by rw[List.take_zero];exact rowNil _ _,Chg.refl _ _⟩
    case round =>
     obtain⟨i,hi,rfl,hrow,hc⟩:=hrel
     have HROW:=lh hrow
     have HCY:=lh hc
     have HC3Y:=lh (HC3K.out.trans hc (by simp))
     by_cases hlt:i<R.length
     ·obtain⟨pg,pc,va,vc,ea,ec,hpe,hc1,hc2,hr1,hr2⟩:=nest_pair (HPN.out.fresh HC3Y.out) rfl hlt
      simp only[Value.slice.injEq] at hpe
      obtain⟨rfl,-,rfl⟩:=hpe
      have HGE:=lh (Plain.genus_eq HPO.out W hlt)
      rw[HCNE.out] at HGE
      have hz:=HCLE.out i
      have hiC:i<CN.length:=by rw[HCL.out];exact hlt
      have hfc:=hc.cell (row_cell HCN.out hiC) (by simp)
      have hcl1:=Nat.le_trans (Plain.comp_len g p (R.getD i 0)) hpv
      have hcl2:(p.sub g (Plain.comp g p (R.getD i 0))).e.length≤100000:=by
       unfold Plain.Pt.sub
       exact Nat.le_trans (List.length_filter_le _ _) hpl
      have HTK:=lh (show (R.take (i+1)).map (Plain.genusAt g p W)=(R.take i).map (Plain.genusAt g p W)++[Plain.genusAt g p W (R.getD i 0)] by
       rw[Plain.take_snoc' hlt,List.map_append];rfl)
      have hrowl:((R.take i).map (Plain.genusAt g p W)).length≤100000:=by rw[List.length_map,List.length_take];omega
      obtain⟨oo,oc,rfl⟩:=hrow.shape
      have HLT:=lh hlt
      generalize CN.getD i 0=z at *
      obtain⟨G,hG⟩:∃ G,Plain.genusAt g p W (R.getD i 0)=G:=⟨_,rfl⟩
      rw[hG] at HGE HTK
      generalize (p.sub g (Plain.comp g p (R.getD i 0))).e=E0 at *
      generalize Plain.comp g p (R.getD i 0)=C at *
      generalize (R.take i).map (Plain.genusAt g p W)=RR at *
      clear hr1 hr2 hrow hc hG hiC
      go_wp2
      have HBX:=lh ((Chg.refl [] wr).alloc (.cells #[.slice va C.length vc,.slice ea E0.length ec] 29))
      have b0:=(cell_of_row _ _ 0 _ _ _ (heap_alloc_new wr (.cells #[.slice va C.length vc,.slice ea E0.length ec] 29))).trans (show _=some (Value.slice va C.length vc) from rfl)
      have b1:=(cell_of_row _ _ 1 _ _ _ (heap_alloc_new wr (.cells #[.slice va C.length vc,.slice ea E0.length ec] 29))).trans (show _=some (Value.slice ea E0.length ec) from rfl)
      have hfb:=HBX.out.cell hfc (by simp)
      have HROWB:=lh (HROW.out.chg HBX.out (by simp))
      have HCB:=lh (HCY.out.trans HBX.out (by simp))
      clear hc1 hc2 hfc
      obtain⟨wb,hwb⟩:∃ wb,wr.heap.size=wb:=⟨_,rfl⟩
      generalize (wr.alloc (.cells #[.slice va C.length vc,.slice ea E0.length ec] 29))=wq at *
      rw[hwb] at b0 b1 ⊢
      clear hwb
      have hS0:(fun w':World=>w'.cell? ⟨wb,0,none⟩=some (.slice va C.length vc)∧w'.cell? ⟨wb,1,none⟩=some (.slice ea E0.length ec)∧w'.cell? ⟨fb,i,none⟩=some (.int .i64 z)) wq.drew:=⟨b0,b1,hfb⟩
      refine wp_region_way (fun w':World=>w'.cell? ⟨wb,0,none⟩=some (.slice va C.length vc)∧w'.cell? ⟨wb,1,none⟩=some (.slice ea E0.length ec)∧w'.cell? ⟨fb,i,none⟩=some (.int .i64 z)) [0,1,2,3,4,5,6,7,8,9,10,11,12,13,14] (Way.line [0,1,2,3,4,5,6,7,8,9,10,11,12,13,14,15,16,17] .done) (by kernel_rfl) (by kernel_rfl) ?_
      simp only[Way.line]
      repeat
       first
        | (refine along_off rfl (by rfl) (by rfl) (fun _ _ _ h=>h) hS0 ?_;simp only[Act.put,Z1,Z2,Z3,Z4,Z5,Z6])
        | (refine along_read (v:=?_) rfl (by rfl) (by rfl) (fun _ _ _ h=>h) hS0 (fun w' hS'=>?_) ?_;rotate_left;(focus ((try dsimp only at hS');go_simp;try with_reducible rfl));simp only[Act.put,Z1,Z2,Z3,Z4,Z5,Z6])
        | (refine along_skip rfl (by rfl) (by rfl) hS0 ?_;simp only[Act.put,Z1,Z2,Z3,Z4,Z5,Z6])
      refine along_op rfl (by rfl) (by rfl) (fun K hK=>?_)
      go_simp
      have hw1:=IntWalk.i64_in (2 - (C.length:Int)) (by omega)
      have hw2:=IntWalk.i64_in (2 - (C.length:Int)+(E0.length:Int)) (by omega)
      have hw3:=IntWalk.i64_in (2 - (C.length:Int)+(E0.length:Int) - z) (by omega)
      have hwv:IntKind.i64.wrap ((IntKind.i64.wrap (IntKind.i64.wrap (IntKind.i64.wrap (2 - (C.length:Int))+(E0.length:Int)) - z)).tdiv 2)=G:=by
       rw[hw1,hw2,hw3,IntWalk.i64_quo' _ _ (by omega)]
       exact HGE.out
      have IG:I64 G:=by
       rw[←hwv]
       rw[IntWalk.i64_left]
       exact wrap64_wf _
      rw[hwv]
      have hSC:=((Chg.refl [] wq).alloc (.cells #[.int .i64 G] 3)).drew
      have hS1:(fun w':World=>w'.cell? ⟨wb,0,none⟩=some (.slice va C.length vc)∧w'.cell? ⟨wb,1,none⟩=some (.slice ea E0.length ec)∧w'.cell? ⟨fb,i,none⟩=some (.int .i64 z)) (wq.alloc (.cells #[.int .i64 G] 3)).drew:=⟨hSC.cell b0 (by simp),hSC.cell b1 (by simp),hSC.cell hfb (by simp)⟩
      have HLI:=lh ((lit_ints wq IG).fresh (Chg.refl [] _).drew)
      have HROWD:=lh (HROWB.out.chg hSC (by simp))
      have HCD:=lh (HCB.out.trans hSC (by simp))
      have HBD:=lh HCD.out.size
      refine hK.out _ _ (fun _=>hS1) ?_
      clear hK K hS0 hw1 hw2 hw3 hwv hSC b0 b1 hfb
      generalize (wq.alloc (.cells #[.int .i64 G] 3)).drew=wa at *
      generalize wq.heap.size=nl at *
      try simp only[Act.put,Z1,Z2,Z3,Z4,Z5,Z6]
      refine along_op rfl (by rfl) (by rfl) (fun K hK=>?_)
      simp only[List.getElem_toArray,List.getElem_cons_zero,List.getElem_cons_succ]
      refine wp_app_readK (.tmp 101) (.tmp 116) rfl (B:=wy.heap.size) (v:=.slice oo RR.length oc) rfl rfl HROWD.out HLI.out HBD.out (by simp;omega) fun v' w7 r7 c7 f7=>?_
      obtain⟨vo,vcc,rfl⟩:=r7.shape
      have HR7:=lh r7
      have HC7:=lh (HCD.out.trans c7 (fun j hj=>Or.inr (HROWD.out.low j (by rw[←HROWD.out.foot];exact hj)).1))
      refine hK.out _ _ (fun h=>absurd h (Bool.eq_false_iff.1 (by kernel_rfl))) ?_
      clear hK K hS1 r7 c7 f7
      try simp only[Act.put,List.setIfInBounds_toArray,List.set_cons_zero,List.set_cons_succ]
      refine along_op rfl (by rfl) (by rfl) (fun K hK=>?_)
      go_simp
      refine hK.out _ _ (fun h=>absurd h (Bool.eq_false_iff.1 (by kernel_rfl))) ?_
      clear hK K
      try simp only[Act.put,Z1,Z2,Z3,Z4,Z5,Z6]
      refine along_done ?_
      go_wp2
      go_roundw
      case rel=>exact⟨i+1,by have:=HLT.out;omega,by go_num,by rw[HTK.out];have:=HR7.out;rwa[show (RR++[G]).length=RR.length+1 by simp] at this,HC7.out⟩
      case measure=>have:=HLT.out;simp[intOf];omega
     have e:i=R.length:=by omega
     subst e
     rw[List.take_length] at hrow
     have HFIN:=lh (hrow.base (show w.heap.size≤wy.heap.size by have:=HCK.out.size;have:=HSZZ.out;have:=HSZ3.out;omega))
     have HCF:=lh (HC3.out.trans HC3Y.out (by simp))
     obtain⟨oo,oc,rfl⟩:=hrow.shape
     clear hrow hc HROW
     go_wp2
     refine bodyPost_ret (v:=.tuple #[.slice oo (R.map (Plain.genusAt g p W)).length oc,.int .i64 0]) (by simp[results,Tryz.results108,go_sem]) rfl ?_
     rw[HR.out,HRD.out]
     exact⟨_,rfl,fun h=>absurd rfl h,fun _=>⟨W,HWK.out,HFIN.out⟩,HCF.out⟩
 obtain⟨er,her⟩:∃ er,Plain.turnErr g p turn=er:=⟨_,rfl⟩
 have HER:=lh her
 have hr1':=hr1 hr
 subst hr1'
 rw[her] at hr ⊢
 have HR:=lh hr
 clear her hr1 hr2
 go_wp2
 refine bodyPost_ret (v:=.tuple #[.slice none 0 0,.int .i64 er]) (by simp[results,Tryz.results108,go_sem]) rfl ?_
 rw[HER.out]
 exact⟨_,rfl,fun _=>rfl,fun h=>absurd h HR.out,HC2.out⟩
end Go.Proofs.YtkacjmoamgjfpaaGreat
