/- the document's answer for package walk: the contract of Spread, from one vertex. Conditions: a right part that lies in memory and reads so; a vertex of it. -/
import Derived.Test.YtmhcmnaecpagiaaGreatZQueue
namespace Go.Proofs.YtmhcmnaecpagiaaGreat
open Go.RowKit Go.Maps
namespace Plain
theorem nodup_le:∀ {l m:List Int},l.Nodup→(∀ x∈l,x∈m)→l.length≤m.length
 | [],_,_,_=>Nat.zero_le _
 | x :: l,m,hn,hs=>by
  rw[List.nodup_cons] at hn;have hx:=hs x (by simp);have:=nodup_le (l:=l) (m:=m.erase x) hn.2 (fun y hy=>by
   refine (List.mem_erase_of_ne (fun e=>hn.1 (by rw[←e];exact hy))).2 (hs y (by simp[hy])))
  rw[List.length_erase_of_mem hx] at this;have:=List.length_pos_of_mem hx;simp;omega
structure Met (g:Gr) (p:Pt) (but a:Int) (M:List Int):Prop where
 base:a∈M
 come:∀ u∈M,Come g p but a u
 inV:∀ u∈M,u∈p.v
 nodup:M.Nodup
def Seen (g:Gr) (p:Pt) (but:Int) (M:List Int) (u:Int) (t:Nat):Prop :=
 ((g.at (p.e.getD t 0)).1=u→(g.at (p.e.getD t 0)).2=but∨(g.at (p.e.getD t 0)).2∈M)∧((g.at (p.e.getD t 0)).2=u→(g.at (p.e.getD t 0)).1=but∨(g.at (p.e.getD t 0)).1∈M)
theorem Seen.more {g:Gr} {p:Pt} {but u x:Int} {M:List Int} {t:Nat} (h:Seen g p but M u t):Seen g p but (M++[x]) u t :=
 ⟨fun e=>(h.1 e).imp id (fun q=>List.mem_append.2 (Or.inl q)),fun e=>(h.2 e).imp id (fun q=>List.mem_append.2 (Or.inl q))⟩
def SOut (g:Gr) (p:Pt) (but a:Int) (M:List Int) (i:Nat):Prop:=Met g p but a M∧i≤M.length∧∀ j,j<i→∀ t,t<p.e.length→Seen g p but M (M.getD j 0) t
def SIn (g:Gr) (p:Pt) (but a:Int) (M:List Int) (i k:Nat):Prop:=Met g p but a M∧i<M.length∧(∀ j,j<i→∀ t,t<p.e.length→Seen g p but M (M.getD j 0) t)∧∀ t,t<k→Seen g p but M (M.getD i 0) t
theorem SOut.start {g:Gr} {p:Pt} {but a:Int} (ha:a∈p.v):SOut g p but a [a] 0 :=
 ⟨⟨by simp,fun u hu=>by simp at hu;subst hu;exact .here,fun u hu=>by simp at hu;subst hu;exact ha,by simp⟩,by simp,by simp⟩
theorem SOut.inner {g:Gr} {p:Pt} {but a:Int} {M:List Int} {i:Nat} (h:SOut g p but a M i) (hi:i<M.length):SIn g p but a M i 0:=⟨h.1,hi,h.2.2,by simp⟩
theorem SIn.outer {g:Gr} {p:Pt} {but a:Int} {M:List Int} {i:Nat} (h:SIn g p but a M i p.e.length):SOut g p but a M (i+1) :=
 ⟨h.1,h.2.1,fun j hj=>by
  by_cases e:j=i
  ·subst e;exact h.2.2.2
  exact h.2.2.1 j (by omega)⟩
theorem getD_snoc {M:List Int} {x:Int} {j:Nat} (hj:j<M.length):(M++[x]).getD j 0=M.getD j 0:=by simp[List.getD,List.getElem?_append_left hj]
theorem SIn.add {g:Gr} {p:Pt} {but a x:Int} {M:List Int} {i k:Nat} (h:SIn g p but a M i k) (hx:x ∉ M) (hv:x∈p.v) (hn:Near g p (M.getD i 0) x) (hb:x≠but):SIn g p but a (M++[x]) i k:=by
 obtain⟨h1,h2,h3,h4⟩:=h;have hmi:M.getD i 0∈M:=by simp[List.getD,h2]
 refine⟨⟨by simp[h1.base],fun u hu=>?_,fun u hu=>?_,?_⟩,by simp;omega,fun j hj t ht=>?_,fun t ht=>?_⟩
 ·rcases List.mem_append.1 hu with q | q
  ·exact h1.come u q
  simp at q;subst q;exact (h1.come _ hmi).step hn hb
 ·rcases List.mem_append.1 hu with q | q
  ·exact h1.inV u q
  simp at q;subst q;exact hv
 ·rw[List.nodup_append]
  exact⟨h1.nodup,by simp,fun u hu z hz=>by simp at hz;subst hz;rintro rfl;exact hx hu⟩
 ·rw[getD_snoc (by omega)];exact (h3 j hj t ht).more
 rw[getD_snoc h2];exact (h4 t ht).more
theorem SIn.next {g:Gr} {p:Pt} {but a:Int} {M:List Int} {i k:Nat} (h:SIn g p but a M i k) (hs:Seen g p but M (M.getD i 0) k):SIn g p but a M i (k+1) :=
 ⟨h.1,h.2.1,h.2.2.1,fun t ht=>by
  by_cases e:t=k
  ·subst e;exact hs
  exact h.2.2.2 t (by omega)⟩
theorem SOut.all {g:Gr} {p:Pt} {but a:Int} {M:List Int} (h:SOut g p but a M M.length) (u:Int):u∈M↔Come g p but a u:=by
 refine come_iff h.1.base h.1.come (fun u hu w hn hs=>?_) u;obtain⟨j,hj,rfl⟩:=mem_getD hu;obtain⟨e,he,hee⟩:=hn;obtain⟨t,ht,rfl⟩:=mem_getD he;have:=h.2.2 j hj t ht;rcases hee with q | q
 ·have:=this.1 (by rw[q])
  rw[q] at this;exact this.resolve_left hs
 have:=this.2 (by rw[q]);rw[q] at this;exact this.resolve_left hs
theorem Met.len {g:Gr} {p:Pt} {but a:Int} {M:List Int} (h:Met g p but a M):M.length≤p.v.length:=nodup_le h.nodup h.inV
end Plain
set_option maxRecDepth 100000 in
set_option maxHeartbeats 4000000 in
theorem spread_any (vg vp vf:Value) (g:Plain.Gr) (p:Plain.Pt) (a but:Int) (w:World) (hV:p.v.length≤1000000) (hE:p.e.length≤1000000) (hr:p.err g=0) (ha:a∈p.v) (hg:GrAt w vg g) (hp:PtAt w vp p) (hf:IntsAt w vf [a]) :
  Calls Tryz.prog 71 #[vg,vp,vf,.int .i64 but] w fun e w'=>∃ v' M,e=.returned v'∧RowAt w' w.heap.size v' M∧(∀ u,u∈M↔Plain.Come g p but a u)∧M.Nodup∧Chg [] w w':=by
 have HRE:=lh (Plain.Pt.err_ok hr).2.2.1;have HPK:=lh (Plain.Pt.ok_of_err hr);have HGE:=lh (Plain.Gr.err_ok (Plain.Pt.err_ok hr).1);have HF:=lh hf;obtain⟨fo,fc,rfl,hfs,-,-⟩:=hf;obtain⟨eo,cap,rfl,-,hm,hsm,hcell⟩:=hg;obtain⟨v1,v2,rfl,hv,he⟩:=hp;obtain⟨ao,ac,rfl,-,-,-⟩:=hv;obtain⟨bo,bc,rfl,hbs,hbm,hbcell⟩:=he;have HCE:=lh hcell;have HBC:=lh hbcell;have HSM:=lh hsm;obtain⟨hb1,hb2,hc1⟩:=box_two w #[.int .i64 g.n,.slice eo g.e.length cap] #[.slice ao p.v.length ac,.slice bo p.e.length bc] 24 27;have X1:=lh ((cell_of_row _ _ 1 _ _ _ hb1).trans (show _=some (Value.slice eo g.e.length cap) from rfl));have Y1:=lh ((cell_of_row _ _ 1 _ _ _ hb2).trans (show _=some (Value.slice bo p.e.length bc) from rfl));have HC1:=lh hc1;have HST:=lh (Plain.SOut.start (g:=g) (but:=but) ha);clear hcell hbcell hsm hr hbs hb1 hb2 hc1 hfs ha
 go_enter Tryz.func71,Tryz.ntmps71
 generalize hw1:((w.alloc (.cells #[.int .i64 g.n,.slice eo g.e.length cap] 24)).alloc (.cells #[.slice ao p.v.length ac,.slice bo p.e.length bc] 27))=w1 at *;have HR0:Hid (RowAt w1 w1.heap.size (.slice none 0 0) []):=⟨World.ownsRow_nil _ _ _ _,by simp,by simp⟩;have HF1:=lh (HF.out.fresh HC1.out);have HW1:=lh hw1;clear hw1
 go_wp2_with (at_builtin;rw[HW1.out];refine wl_app_read rfl _ _ rfl (B:=w1.heap.size) rfl rfl HR0.out HF1.out (Nat.le_refl _) (by simp) ?_;intro vv w2 r2 c2 f2;have R2:=lh r2;have C2:=lh c2;clear r2 c2 f2)
 have HC2:=lh (show Chg [] w1 w2 from C2.out);have HWB:=lh HC1.out.size;clear C2 HR0 HF HF1 HW1;generalize hgb:w.heap.size=gb at *;generalize hpb:gb+1=pb at *;have HGB:=lh hgb;clear hgb hpb;obtain⟨B,hB⟩:∃ B,w1.heap.size=B:=⟨_,rfl⟩;rw[hB] at R2;have HB:=lh hB;clear hB
 go_loopw [9,10] (fun c9 c10 wr=>∃ (M:List Int) (i:Nat),c10=.int .i64 i∧RowAt wr B c9 M∧Chg [] w1 wr∧Hid (Plain.SOut g p but a M i)) (fun _ c _=>p.v.length+1 - (intOf c).toNat)
 case atStart=>exact⟨[a],0,rfl,by simpa using R2.out,HC2.out,HST⟩
 case round =>
  obtain⟨M,i,rfl,hrow,hc,hso⟩:=hrel;obtain⟨mo,mc,e9⟩:=hrow.shape;subst e9;have hML:=hso.out.1.len;have hiM:=hso.out.2.1;have HROW:=lh hrow;have HC:=lh hc;clear hrow;by_cases hlt:i<M.length
  ·have HIN:=lh (hso.out.inner hlt)
   clear hso;go_wp2
   go_loopw [9,11] (fun c9 c11 wr=>∃ (M:List Int) (k:Nat),k≤p.e.length∧c11=.int .i64 k∧RowAt wr B c9 M∧Chg [] w1 wr∧Hid (Plain.SIn g p but a M i k)) (fun _ c _=>p.e.length - (intOf c).toNat)
   case atStart=>exact⟨M,0,Nat.zero_le _,rfl,HROW.out,HC.out,HIN⟩
   case round =>
    obtain⟨N,k,hk,rfl,hrow,hc2,hin⟩:=hrel;obtain⟨no,nc,e9⟩:=hrow.shape;subst e9;have hNL:=hin.out.1.len;have hiN:=hin.out.2.1;have HROW2:=lh hrow;have HCC:=lh hc2;have y1:=hc2.c Y1.out;by_cases hlk:k<p.e.length
    ·obtain⟨gr,hno,hrc⟩:=hrow.some (by omega)
     subst hno;have cm:=hrc i hiN;obtain⟨bb,boff,rfl,hbc⟩:=HBC.out (by intro e;rw[e] at hlk;simp at hlk);have ce:=hc2.c (HC1.out.c (hbc k hlk));have hre:=Plain.rises_at HRE.out hlk;obtain⟨ei,hei⟩:∃ ei:Nat,p.e.getD k 0=(ei:Int):=⟨(p.e.getD k 0).toNat,by omega⟩;rw[hei] at ce hre;have hei2:ei<g.e.length:=by omega
     have hglen:g.e.length<4294967296:=by have:=HGE.out.2.2.1;have:=HGE.out.1;omega
     obtain⟨eb,eoff,rfl,hc0,hc1⟩:=HCE.out ei hei2;have c0:=hc2.c (HC1.out.c hc0);have c1:=hc2.c (HC1.out.c hc1);have x1:=hc2.c X1.out;have hee:(ei:Int)∈p.e:=by rw[←hei];simp[List.getD,hlk]
     have hends:=HPK.out.ends _ hee;have HAT:=lh (show g.at (p.e.getD k 0)=g.ends ei by rw[hei];unfold Plain.Gr.at;rw[Int.toNat_natCast]);have HNR:=lh (show Plain.Near g p (g.ends ei).1 (g.ends ei).2 from⟨ei,hee,Or.inl (by unfold Plain.Gr.at;rw[Int.toNat_natCast])⟩);have hends2:(g.ends ei).1∈p.v∧(g.ends ei).2∈p.v:=by have:=hends;unfold Plain.Gr.at at this;rw[Int.toNat_natCast] at this;exact this
     have HEV:=lh hends2;have HSEEN:=lh (show ∀ M' u,Plain.Seen g p but M' u k↔((g.ends ei).1=u→(g.ends ei).2=but∨(g.ends ei).2∈M')∧((g.ends ei).2=u→(g.ends ei).1=but∨(g.ends ei).1∈M') from fun M' u=>by unfold Plain.Seen;rw[HAT.out]);obtain⟨z1,z2⟩:=HSM.out ei hei2;clear hbc hrc hre hei hc0 hc1 hee hends hends2 HAT hrow hc2;generalize (g.ends ei).1=x at *;generalize (g.ends ei).2=y at *;obtain⟨mi,hmi⟩:∃ mi,N.getD i 0=mi:=⟨_,rfl⟩;rw[hmi] at cm;have HMI:=lh hmi;clear hmi;have hS0:(fun w':World=>w'.cell? ⟨gb,1,none⟩=some (.slice (some ⟨eb,eoff,none⟩) g.e.length cap)∧w'.cell? ⟨pb,1,none⟩=some (.slice (some ⟨bb,boff,none⟩) p.e.length bc)∧w'.cell? ⟨bb,boff+k,none⟩=some (.int .i64 (ei:Int))∧w'.cell? ⟨eb,eoff+ei*2,none⟩=some (.int .i64 x)∧w'.cell? ⟨eb,eoff+ei*2+1,none⟩=some (.int .i64 y)∧Chg [] wr w') wr.drew:=⟨x1,y1,ce,c0,c1,(Chg.refl [] wr).drew⟩;go_wp2;refine wp_region_way (fun w':World=>w'.cell? ⟨gb,1,none⟩=some (.slice (some ⟨eb,eoff,none⟩) g.e.length cap)∧w'.cell? ⟨pb,1,none⟩=some (.slice (some ⟨bb,boff,none⟩) p.e.length bc)∧w'.cell? ⟨bb,boff+k,none⟩=some (.int .i64 (ei:Int))∧w'.cell? ⟨eb,eoff+ei*2,none⟩=some (.int .i64 x)∧w'.cell? ⟨eb,eoff+ei*2+1,none⟩=some (.int .i64 y)∧Chg [] wr w') [0,1,2,3,4,5,6,7,8] (Way.line [0,1,2,3,4,5,6,7,8,9,10] .done) (by kernel_rfl) (by kernel_rfl) ?_;simp only[Way.line]
     repeat
      first
       | (refine along_off rfl (by rfl) (by rfl) (fun _ _ _ h=>h) hS0 ?_;simp only[Act.put,Z1,Z2,Z3,Z4,Z5,Z6])
       | (refine along_read (v:=?_) rfl (by rfl) (by rfl) (fun _ _ _ h=>h) hS0 (fun w' hS'=>?_) ?_;rotate_left;(focus ((try dsimp only at hS');go_simp;try with_reducible rfl));simp only[Act.put,Z1,Z2,Z3,Z4,Z5,Z6])
       | (refine along_skip rfl (by rfl) (by rfl) hS0 ?_;simp only[Act.put,Z1,Z2,Z3,Z4,Z5,Z6])
     refine along_op rfl (by rfl) (by rfl) (fun K hK=>?_);go_simp;have ca:=((Chg.refl [] wr).alloc (.cells #[.int .i64 0,.int .i64 0] 65)).drew;have hSa:(fun w':World=>w'.cell? ⟨gb,1,none⟩=some (.slice (some ⟨eb,eoff,none⟩) g.e.length cap)∧w'.cell? ⟨pb,1,none⟩=some (.slice (some ⟨bb,boff,none⟩) p.e.length bc)∧w'.cell? ⟨bb,boff+k,none⟩=some (.int .i64 (ei:Int))∧w'.cell? ⟨eb,eoff+ei*2,none⟩=some (.int .i64 x)∧w'.cell? ⟨eb,eoff+ei*2+1,none⟩=some (.int .i64 y)∧Chg [] wr w') (wr.alloc (.cells #[.int .i64 0,.int .i64 0] 65)).drew:=⟨ca.c x1,ca.c y1,ca.c ce,ca.c c0,ca.c c1,ca⟩;refine hK.out _ _ (fun _=>hSa) ?_;clear hK K hSa ca
     try simp only[Act.put,Z1,Z2,Z3,Z4,Z5,Z6]
     refine along_op rfl (by rfl) (by rfl) (fun K hK=>?_);go_simp;have cb:=((Chg.refl [] wr).alloc (.cells #[.int .i64 x,.int .i64 y] 65)).drew;have hSb:(fun w':World=>w'.cell? ⟨gb,1,none⟩=some (.slice (some ⟨eb,eoff,none⟩) g.e.length cap)∧w'.cell? ⟨pb,1,none⟩=some (.slice (some ⟨bb,boff,none⟩) p.e.length bc)∧w'.cell? ⟨bb,boff+k,none⟩=some (.int .i64 (ei:Int))∧w'.cell? ⟨eb,eoff+ei*2,none⟩=some (.int .i64 x)∧w'.cell? ⟨eb,eoff+ei*2+1,none⟩=some (.int .i64 y)∧Chg [] wr w') (wr.alloc (.cells #[.int .i64 x,.int .i64 y] 65)).drew:=⟨cb.c x1,cb.c y1,cb.c ce,cb.c c0,cb.c c1,cb⟩;refine hK.out _ _ (fun _=>hSb) ?_;clear hK K hSb hS0;have n0:(wr.alloc (.cells #[.int .i64 x,.int .i64 y] 65)).drew.cell? ⟨wr.heap.size,0,none⟩=some (.int .i64 x):=(cell_of_row _ _ 0 _ _ _ (heap_alloc_new wr _)).trans rfl;have n1:(wr.alloc (.cells #[.int .i64 x,.int .i64 y] 65)).drew.cell? ⟨wr.heap.size,1,none⟩=some (.int .i64 y):=(cell_of_row _ _ 1 _ _ _ (heap_alloc_new wr _)).trans rfl;have cmb:=cb.c cm;have HNB:Hid ((wr.alloc (.cells #[.int .i64 x,.int .i64 y] 65)).drew.heap[wr.heap.size]?=some (.cells #[.int .i64 x,.int .i64 y] 65 (0,0))):=heap_alloc_new wr _;have ROWB:=lh (HROW2.out.chg cb (by simp));have HCB:=lh (HCC.out.t cb);clear cb cm x1 y1 ce c0 c1;generalize (wr.alloc (.cells #[.int .i64 x,.int .i64 y] 65)).drew=wb at *;generalize wr.heap.size=nb at *
     try simp only[Act.put,Z1,Z2,Z3,Z4,Z5,Z6]
     refine along_done ?_;go_wp2;by_cases e11_wb:x=mi
     ·by_cases e21_wb:y=but
      ·have b11_wb:(x==mi)=true:=by rw[beq_iff_eq];exact e11_wb
       have b21_wb:(y==but)=true:=by rw[beq_iff_eq];exact e21_wb
       have b2a1_wb:(y != but)=false:=by simp[e21_wb]
       have b2b1_wb:decide (y=but)=true:=by simp[e21_wb]
       have b2c1_wb:(!decide (y=but))=false:=by simp[e21_wb]
       have PP1_wb:=lh e21_wb;clear e11_wb e21_wb;have hS1_wb:(fun w':World=>w'.cell? ⟨nb,0,none⟩=some (.int .i64 x)∧w'.cell? ⟨nb,1,none⟩=some (.int .i64 y)∧w'.cell? ⟨gr,i,none⟩=some (.int .i64 mi)∧Chg [] wb w') wb.drew:=⟨n0,n1,cmb,(Chg.refl [] _).drew⟩;refine wp_region_way (fun w':World=>w'.cell? ⟨nb,0,none⟩=some (.int .i64 x)∧w'.cell? ⟨nb,1,none⟩=some (.int .i64 y)∧w'.cell? ⟨gr,i,none⟩=some (.int .i64 mi)∧Chg [] wb w') [0,1,2,3,4,5,6,7,8,9,10,11,12,13,14,15,16,18,19] (Way.line [0,1,2,3,4,5,6,7,8,9,10,11,12,13,14,15,16,17,18,19] .done) (by kernel_rfl) (by kernel_rfl) ?_;simp only[Way.line]
       repeat
        first
         | (refine along_off rfl (by rfl) (by rfl) (fun _ _ _ h=>h) hS1_wb ?_;simp only[Act.put,Z1,Z2,Z3,Z4,Z5,Z6])
         | (refine along_read (v:=?_) rfl (by rfl) (by rfl) (fun _ _ _ h=>h) hS1_wb (fun w' hS'=>?_) ?_;rotate_left;(focus ((try dsimp only at hS');go_simp;try with_reducible rfl));simp only[Act.put,Z1,Z2,Z3,Z4,Z5,Z6])
         | (refine along_skip rfl (by rfl) (by rfl) hS1_wb ?_;simp only[Act.put,Z1,Z2,Z3,Z4,Z5,Z6])
       generalize hwd1_wb:wb.drew=wd1_wb at *;have hcd1_wb:=lh (show Chg [] wb wd1_wb by rw[←hwd1_wb];exact (Chg.refl [] _).drew);clear hwd1_wb;have P1_wb:Hid (x=mi→y=but∨y∈N):=lh (fun _=>Or.inl PP1_wb.out);have row1_wb:=lh (ROWB.out.chg hcd1_wb.out (by simp));have hc1_wb:=lh (HCB.out.t hcd1_wb.out);have n01_wb:=hcd1_wb.out.c n0;have n11_wb:=hcd1_wb.out.c n1;have cm1_wb:=hcd1_wb.out.c cmb;have hnb1_wb:=lh (hcd1_wb.out.heap HNB.out (by simp));clear n0 n1 cmb hS1_wb;refine along_done ?_;go_wp2;by_cases e12_wd1_wb:y=mi
       ·by_cases e22_wd1_wb:x=but
        ·have b12_wd1_wb:(y==mi)=true:=by rw[beq_iff_eq];exact e12_wd1_wb
         have b22_wd1_wb:(x==but)=true:=by rw[beq_iff_eq];exact e22_wd1_wb
         have b2a2_wd1_wb:(x != but)=false:=by simp[e22_wd1_wb]
         have b2b2_wd1_wb:decide (x=but)=true:=by simp[e22_wd1_wb]
         have b2c2_wd1_wb:(!decide (x=but))=false:=by simp[e22_wd1_wb]
         have PP2_wd1_wb:=lh e22_wd1_wb;clear e12_wd1_wb e22_wd1_wb;have hS2_wd1_wb:(fun w':World=>w'.cell? ⟨nb,0,none⟩=some (.int .i64 x)∧w'.cell? ⟨nb,1,none⟩=some (.int .i64 y)∧w'.cell? ⟨gr,i,none⟩=some (.int .i64 mi)∧Chg [] wd1_wb w') wd1_wb.drew:=⟨n01_wb,n11_wb,cm1_wb,(Chg.refl [] _).drew⟩;refine wp_region_way (fun w':World=>w'.cell? ⟨nb,0,none⟩=some (.int .i64 x)∧w'.cell? ⟨nb,1,none⟩=some (.int .i64 y)∧w'.cell? ⟨gr,i,none⟩=some (.int .i64 mi)∧Chg [] wd1_wb w') [0,1,2,3,4,5,6,7,8,9,10,11,12,13,14,15,16,18,19] (Way.line [0,1,2,3,4,5,6,7,8,9,10,11,12,13,14,15,16,17,18,19] .done) (by kernel_rfl) (by kernel_rfl) ?_;simp only[Way.line]
         repeat
          first
           | (refine along_off rfl (by rfl) (by rfl) (fun _ _ _ h=>h) hS2_wd1_wb ?_;simp only[Act.put,Z1,Z2,Z3,Z4,Z5,Z6])
           | (refine along_read (v:=?_) rfl (by rfl) (by rfl) (fun _ _ _ h=>h) hS2_wd1_wb (fun w' hS'=>?_) ?_;rotate_left;(focus ((try dsimp only at hS');go_simp;try with_reducible rfl));simp only[Act.put,Z1,Z2,Z3,Z4,Z5,Z6])
           | (refine along_skip rfl (by rfl) (by rfl) hS2_wd1_wb ?_;simp only[Act.put,Z1,Z2,Z3,Z4,Z5,Z6])
         generalize hwd2_wd1_wb:wd1_wb.drew=wd2_wd1_wb at *;have hcd2_wd1_wb:=lh (show Chg [] wd1_wb wd2_wd1_wb by rw[←hwd2_wd1_wb];exact (Chg.refl [] _).drew);clear hwd2_wd1_wb;have P2_wd1_wb:Hid (y=mi→x=but∨x∈N):=lh (fun _=>Or.inl PP2_wd1_wb.out);have row2_wd1_wb:=lh (row1_wb.out.chg hcd2_wd1_wb.out (by simp));have hc2_wd1_wb:=lh (hc1_wb.out.t hcd2_wd1_wb.out);have n02_wd1_wb:=hcd2_wd1_wb.out.c n01_wb;have n12_wd1_wb:=hcd2_wd1_wb.out.c n11_wb;have cm2_wd1_wb:=hcd2_wd1_wb.out.c cm1_wb;have hnb2_wd1_wb:=lh (hcd2_wd1_wb.out.heap hnb1_wb.out (by simp));clear n01_wb n11_wb cm1_wb hS2_wd1_wb;refine along_done ?_;go_wp2;have HN2_wd1_wb:=lh (Plain.SIn.next hin.out (by rw[HMI.out,HSEEN.out];exact⟨fun q=>(P1_wb.out q).imp id (fun q=>q),P2_wd1_wb.out⟩));go_wp2
         go_roundw
         case rel=>exact⟨_,k+1,by omega,by go_num,row2_wd1_wb.out,hc2_wd1_wb.out,HN2_wd1_wb⟩
         case measure=>simp[intOf];omega
        have b12_wd1_wb:(y==mi)=true:=by rw[beq_iff_eq];exact e12_wd1_wb
        have b22_wd1_wb:(x==but)=false:=by rw[beq_eq_false_iff_ne];exact e22_wd1_wb
        have b2a2_wd1_wb:(x != but)=true:=by simp[e22_wd1_wb]
        have b2b2_wd1_wb:decide (x=but)=false:=by simp[e22_wd1_wb]
        have b2c2_wd1_wb:(!decide (x=but))=true:=by simp[e22_wd1_wb]
        have PA2_wd1_wb:=lh e12_wd1_wb;have PP2_wd1_wb:=lh e22_wd1_wb;clear e12_wd1_wb e22_wd1_wb;have hS2_wd1_wb:(fun w':World=>w'.cell? ⟨nb,0,none⟩=some (.int .i64 x)∧w'.cell? ⟨nb,1,none⟩=some (.int .i64 y)∧w'.cell? ⟨gr,i,none⟩=some (.int .i64 mi)∧Chg [] wd1_wb w') wd1_wb.drew:=⟨n01_wb,n11_wb,cm1_wb,(Chg.refl [] _).drew⟩;refine wp_region_way (fun w':World=>w'.cell? ⟨nb,0,none⟩=some (.int .i64 x)∧w'.cell? ⟨nb,1,none⟩=some (.int .i64 y)∧w'.cell? ⟨gr,i,none⟩=some (.int .i64 mi)∧Chg [] wd1_wb w') [0,1,2,3,4,5,6,7,8,9,10,11,12,13,14,15,16,18,19] (Way.line [0,1,2,3,4,5,6,7,8,9,10,11,12,13,14,15,16,17,18,19] .done) (by kernel_rfl) (by kernel_rfl) ?_;simp only[Way.line]
        repeat
         first
          | (refine along_off rfl (by rfl) (by rfl) (fun _ _ _ h=>h) hS2_wd1_wb ?_;simp only[Act.put,Z1,Z2,Z3,Z4,Z5,Z6])
          | (refine along_read (v:=?_) rfl (by rfl) (by rfl) (fun _ _ _ h=>h) hS2_wd1_wb (fun w' hS'=>?_) ?_;rotate_left;(focus ((try dsimp only at hS');go_simp;try with_reducible rfl));simp only[Act.put,Z1,Z2,Z3,Z4,Z5,Z6])
          | (refine along_skip rfl (by rfl) (by rfl) hS2_wd1_wb ?_;simp only[Act.put,Z1,Z2,Z3,Z4,Z5,Z6])
        refine along_op rfl (by rfl) (by rfl) (fun K hK=>?_);go_simp;refine (in_any _ N x _ (row1_wb.out.chg (Chg.refl [] _).drew (by simp)).ints).mono ?_;rintro e wi2_wd1_wb ⟨rfl,hci2_wd1_wb⟩;have HI2_wd1_wb:=lh ((Chg.refl [] wd1_wb).drew.t hci2_wd1_wb);have hT2_wd1_wb:(fun w':World=>w'.cell? ⟨nb,0,none⟩=some (.int .i64 x)∧w'.cell? ⟨nb,1,none⟩=some (.int .i64 y)∧w'.cell? ⟨gr,i,none⟩=some (.int .i64 mi)∧Chg [] wd1_wb w') wi2_wd1_wb:=⟨HI2_wd1_wb.out.c n01_wb,HI2_wd1_wb.out.c n11_wb,HI2_wd1_wb.out.c cm1_wb,HI2_wd1_wb.out⟩;refine hK.out _ _ (fun _=>hT2_wd1_wb) ?_;clear hK K hci2_wd1_wb;cases hq2_wd1_wb:decide (x∈N) with
        | true =>
         have HQ2_wd1_wb:=lh (of_decide_eq_true hq2_wd1_wb);clear hq2_wd1_wb
         try simp only[Act.put,Z1,Z2,Z3,Z4,Z5,Z6]
         repeat
          first
           | (refine along_off rfl (by rfl) (by rfl) (fun _ _ _ h=>h) hT2_wd1_wb ?_;simp only[Act.put,Z1,Z2,Z3,Z4,Z5,Z6])
           | (refine along_read (v:=?_) rfl (by rfl) (by rfl) (fun _ _ _ h=>h) hT2_wd1_wb (fun w' hS'=>?_) ?_;rotate_left;(focus ((try dsimp only at hS');go_simp;try with_reducible rfl));simp only[Act.put,Z1,Z2,Z3,Z4,Z5,Z6])
           | (refine along_skip rfl (by rfl) (by rfl) hT2_wd1_wb ?_;simp only[Act.put,Z1,Z2,Z3,Z4,Z5,Z6])
         clear hT2_wd1_wb;have P2_wd1_wb:Hid (y=mi→x=but∨x∈N):=lh (fun _=>Or.inr HQ2_wd1_wb.out);have row2_wd1_wb:=lh (row1_wb.out.chg HI2_wd1_wb.out (by simp));have hc2_wd1_wb:=lh (hc1_wb.out.t HI2_wd1_wb.out);have n02_wd1_wb:=HI2_wd1_wb.out.c n01_wb;have n12_wd1_wb:=HI2_wd1_wb.out.c n11_wb;have cm2_wd1_wb:=HI2_wd1_wb.out.c cm1_wb;have hnb2_wd1_wb:=lh (HI2_wd1_wb.out.heap hnb1_wb.out (by simp));clear n01_wb n11_wb cm1_wb hS2_wd1_wb;refine along_done ?_;go_wp2;have HN2_wd1_wb:=lh (Plain.SIn.next hin.out (by rw[HMI.out,HSEEN.out];exact⟨fun q=>(P1_wb.out q).imp id (fun q=>q),P2_wd1_wb.out⟩));go_wp2
         go_roundw
         case rel=>exact⟨_,k+1,by omega,by go_num,row2_wd1_wb.out,hc2_wd1_wb.out,HN2_wd1_wb⟩
         case measure=>simp[intOf];omega
        | false =>
         have HQ2_wd1_wb:=lh (of_decide_eq_false hq2_wd1_wb);clear hq2_wd1_wb
         try simp only[Act.put,Z1,Z2,Z3,Z4,Z5,Z6]
         repeat
          first
           | (refine along_off rfl (by rfl) (by rfl) (fun _ _ _ h=>h) hT2_wd1_wb ?_;simp only[Act.put,Z1,Z2,Z3,Z4,Z5,Z6])
           | (refine along_read (v:=?_) rfl (by rfl) (by rfl) (fun _ _ _ h=>h) hT2_wd1_wb (fun w' hS'=>?_) ?_;rotate_left;(focus ((try dsimp only at hS');go_simp;try with_reducible rfl));simp only[Act.put,Z1,Z2,Z3,Z4,Z5,Z6])
           | (refine along_skip rfl (by rfl) (by rfl) hT2_wd1_wb ?_;simp only[Act.put,Z1,Z2,Z3,Z4,Z5,Z6])
         clear hT2_wd1_wb;have nO2_wd1_wb:=HI2_wd1_wb.out.c n01_wb;have nOn2_wd1_wb:=fun o=>cellNew nO2_wd1_wb o;have HRI2_wd1_wb:=lh (row1_wb.out.chg HI2_wd1_wb.out (by simp));have HMN:=lh (hin.out.1.len);have hNV:=hin.out.1.len;refine along_done ?_
         go_wp2_with (at_builtin;refine wl_app_read rfl _ _ rfl (B:=B) rfl rfl (HRI2_wd1_wb.out.chg ((Chg.refl [] _).alloc (.cells #[.int .i64 x] 3)) (by simp)) (lit_ints _ z1) (by have:=HI2_wd1_wb.out.size;have:=hc1_wb.out.size;have:=HB.out;simp;omega) (by simp;omega) ?_;intro va2_wd1_wb wa2_wd1_wb ra2_wd1_wb ca2_wd1_wb fa2_wd1_wb;obtain⟨mo2_wd1_wb,mc2_wd1_wb,e2_wd1_wb⟩:=ra2_wd1_wb.shape;subst e2_wd1_wb;have RA2_wd1_wb:=lh ra2_wd1_wb;have CA2_wd1_wb:=lh ca2_wd1_wb;clear ra2_wd1_wb ca2_wd1_wb fa2_wd1_wb)
         obtain⟨ga2_wd1_wb,hga2_wd1_wb,hgc2_wd1_wb⟩:=RA2_wd1_wb.out.some (by simp);subst hga2_wd1_wb;have FA2_wd1_wb:Hid (∀ j∈foot (.slice (some ⟨gr,0,none⟩) N.length nc),B≤j∧∃ cs r,(wi2_wd1_wb.alloc (.cells #[.int .i64 x] 3)).heap[j]?=some (.cells cs 3 r)):=by
          intro j hj;have hrow:=HRI2_wd1_wb.out.chg ((Chg.refl [] _).alloc (.cells #[.int .i64 x] 3)) (by simp);rw[hrow.foot] at hj;rcases hrow.1.2 with ⟨q,_⟩ | ⟨g5,c5,cur5,q,hb5,hh5,_⟩
          ·cases q
          rw[q] at hj;simp[Value.ownBlock] at hj;subst hj;exact⟨hb5,_,_,hh5⟩
         have hnbI2_wd1_wb:=((Chg.refl [] _).alloc (.cells #[.int .i64 x] 3)).heap (HI2_wd1_wb.out.heap hnb1_wb.out (by simp)) (by simp);have grn2_wd1_wb:gr≠nb:=by
          intro e;obtain⟨_,cs,r,hh⟩:=FA2_wd1_wb.out gr (by simp[foot,Value.ownBlock]);rw[e,hnbI2_wd1_wb] at hh;simp at hh
         have hBg2_wd1_wb:=(FA2_wd1_wb.out gr (by simp[foot,Value.ownBlock])).1;have CB2_wd1_wb:Chg [gr] (wi2_wd1_wb.alloc (.cells #[.int .i64 x] 3)) wa2_wd1_wb:=CA2_wd1_wb.out;have n02_wd1_wb:=CB2_wd1_wb.cell (cellNew (HI2_wd1_wb.out.c n01_wb) _) (by simpa using Ne.symm grn2_wd1_wb);have n12_wd1_wb:=CB2_wd1_wb.cell (cellNew (HI2_wd1_wb.out.c n11_wb) _) (by simpa using Ne.symm grn2_wd1_wb);have hnb2_wd1_wb:=lh (CB2_wd1_wb.heap hnbI2_wd1_wb (by simpa using Ne.symm grn2_wd1_wb));have hc2_wd1_wb:=lh (((hc1_wb.out.t HI2_wd1_wb.out).alloc (.cells #[.int .i64 x] 3)).trans CB2_wd1_wb (fun j hj=>Or.inr (by have:=HB.out;simp at hj;omega)));have hmi2_wd1_wb:Hid ((N++[x]).getD i 0=mi):=lh (by rw[Plain.getD_snoc hin.out.2.1];exact HMI.out);have cm2_wd1_wb:=hgc2_wd1_wb i (by have:=hin.out.2.1;simp;omega);rw[hmi2_wd1_wb.out] at cm2_wd1_wb;have hin2_wd1_wb:Hid (Plain.SIn g p but a (N++[x]) i k):=lh (Plain.SIn.add hin.out HQ2_wd1_wb.out HEV.out.1 (by rw[HMI.out,←PA2_wd1_wb.out];exact HNR.out.symm) PP2_wd1_wb.out);have P2_wd1_wb:Hid (y=mi→x=but∨x∈N++[x]):=lh (fun _=>Or.inr (by simp));have row2_wd1_wb:=lh RA2_wd1_wb.out;have HSUB2_wd1_wb:Hid (∀ q,q∈N→q∈N++[x]):=lh (fun q hq=>List.mem_append.2 (Or.inl hq));have hl2_wd1_wb:N.length+1=(N++[x]).length:=by simp
         have hiN2_wd1_wb:=hin2_wd1_wb.out.2.1;clear n01_wb n11_wb cm1_wb hnbI2_wd1_wb grn2_wd1_wb hBg2_wd1_wb CB2_wd1_wb CA2_wd1_wb FA2_wd1_wb RA2_wd1_wb hgc2_wd1_wb HMN hNV
         try rw[hl2_wd1_wb]
         clear hl2_wd1_wb;generalize N++[x]=N2_wd1_wb at *;have HN2_wd1_wb:=lh (Plain.SIn.next hin2_wd1_wb.out (by rw[hmi2_wd1_wb.out,HSEEN.out];exact⟨fun q=>(P1_wb.out q).imp id (fun q=>HSUB2_wd1_wb.out _ q),P2_wd1_wb.out⟩));go_wp2
         go_roundw
         case rel=>exact⟨_,k+1,by omega,by go_num,row2_wd1_wb.out,hc2_wd1_wb.out,HN2_wd1_wb⟩
         case measure=>simp[intOf];omega
       have b12_wd1_wb:(y==mi)=false:=by rw[beq_eq_false_iff_ne];exact e12_wd1_wb
       have PP2_wd1_wb:=lh e12_wd1_wb;clear e12_wd1_wb;have hS2_wd1_wb:(fun w':World=>w'.cell? ⟨nb,0,none⟩=some (.int .i64 x)∧w'.cell? ⟨nb,1,none⟩=some (.int .i64 y)∧w'.cell? ⟨gr,i,none⟩=some (.int .i64 mi)∧Chg [] wd1_wb w') wd1_wb.drew:=⟨n01_wb,n11_wb,cm1_wb,(Chg.refl [] _).drew⟩;refine wp_region_way (fun w':World=>w'.cell? ⟨nb,0,none⟩=some (.int .i64 x)∧w'.cell? ⟨nb,1,none⟩=some (.int .i64 y)∧w'.cell? ⟨gr,i,none⟩=some (.int .i64 mi)∧Chg [] wd1_wb w') [0,1,2,3,4,5,6,7,8,9,10,11,12,13,14,15,16,18,19] (Way.line [0,1,2,3,4,5,6,7,8,9,10,11,12,13,14,15,16,17,18,19] .done) (by kernel_rfl) (by kernel_rfl) ?_;simp only[Way.line]
       repeat
        first
         | (refine along_off rfl (by rfl) (by rfl) (fun _ _ _ h=>h) hS2_wd1_wb ?_;simp only[Act.put,Z1,Z2,Z3,Z4,Z5,Z6])
         | (refine along_read (v:=?_) rfl (by rfl) (by rfl) (fun _ _ _ h=>h) hS2_wd1_wb (fun w' hS'=>?_) ?_;rotate_left;(focus ((try dsimp only at hS');go_simp;try with_reducible rfl));simp only[Act.put,Z1,Z2,Z3,Z4,Z5,Z6])
         | (refine along_skip rfl (by rfl) (by rfl) hS2_wd1_wb ?_;simp only[Act.put,Z1,Z2,Z3,Z4,Z5,Z6])
       generalize hwd2_wd1_wb:wd1_wb.drew=wd2_wd1_wb at *;have hcd2_wd1_wb:=lh (show Chg [] wd1_wb wd2_wd1_wb by rw[←hwd2_wd1_wb];exact (Chg.refl [] _).drew);clear hwd2_wd1_wb;have P2_wd1_wb:Hid (y=mi→x=but∨x∈N):=lh (fun e=>absurd e PP2_wd1_wb.out);have row2_wd1_wb:=lh (row1_wb.out.chg hcd2_wd1_wb.out (by simp));have hc2_wd1_wb:=lh (hc1_wb.out.t hcd2_wd1_wb.out);have n02_wd1_wb:=hcd2_wd1_wb.out.c n01_wb;have n12_wd1_wb:=hcd2_wd1_wb.out.c n11_wb;have cm2_wd1_wb:=hcd2_wd1_wb.out.c cm1_wb;have hnb2_wd1_wb:=lh (hcd2_wd1_wb.out.heap hnb1_wb.out (by simp));clear n01_wb n11_wb cm1_wb hS2_wd1_wb;refine along_done ?_;go_wp2;have HN2_wd1_wb:=lh (Plain.SIn.next hin.out (by rw[HMI.out,HSEEN.out];exact⟨fun q=>(P1_wb.out q).imp id (fun q=>q),P2_wd1_wb.out⟩));go_wp2
       go_roundw
       case rel=>exact⟨_,k+1,by omega,by go_num,row2_wd1_wb.out,hc2_wd1_wb.out,HN2_wd1_wb⟩
       case measure=>simp[intOf];omega
      have b11_wb:(x==mi)=true:=by rw[beq_iff_eq];exact e11_wb
      have b21_wb:(y==but)=false:=by rw[beq_eq_false_iff_ne];exact e21_wb
      have b2a1_wb:(y != but)=true:=by simp[e21_wb]
      have b2b1_wb:decide (y=but)=false:=by simp[e21_wb]
      have b2c1_wb:(!decide (y=but))=true:=by simp[e21_wb]
      have PA1_wb:=lh e11_wb;have PP1_wb:=lh e21_wb;clear e11_wb e21_wb;have hS1_wb:(fun w':World=>w'.cell? ⟨nb,0,none⟩=some (.int .i64 x)∧w'.cell? ⟨nb,1,none⟩=some (.int .i64 y)∧w'.cell? ⟨gr,i,none⟩=some (.int .i64 mi)∧Chg [] wb w') wb.drew:=⟨n0,n1,cmb,(Chg.refl [] _).drew⟩;refine wp_region_way (fun w':World=>w'.cell? ⟨nb,0,none⟩=some (.int .i64 x)∧w'.cell? ⟨nb,1,none⟩=some (.int .i64 y)∧w'.cell? ⟨gr,i,none⟩=some (.int .i64 mi)∧Chg [] wb w') [0,1,2,3,4,5,6,7,8,9,10,11,12,13,14,15,16,18,19] (Way.line [0,1,2,3,4,5,6,7,8,9,10,11,12,13,14,15,16,17,18,19] .done) (by kernel_rfl) (by kernel_rfl) ?_;simp only[Way.line]
      repeat
       first
        | (refine along_off rfl (by rfl) (by rfl) (fun _ _ _ h=>h) hS1_wb ?_;simp only[Act.put,Z1,Z2,Z3,Z4,Z5,Z6])
        | (refine along_read (v:=?_) rfl (by rfl) (by rfl) (fun _ _ _ h=>h) hS1_wb (fun w' hS'=>?_) ?_;rotate_left;(focus ((try dsimp only at hS');go_simp;try with_reducible rfl));simp only[Act.put,Z1,Z2,Z3,Z4,Z5,Z6])
        | (refine along_skip rfl (by rfl) (by rfl) hS1_wb ?_;simp only[Act.put,Z1,Z2,Z3,Z4,Z5,Z6])
      refine along_op rfl (by rfl) (by rfl) (fun K hK=>?_);go_simp;refine (in_any _ N y _ (ROWB.out.chg (Chg.refl [] _).drew (by simp)).ints).mono ?_;rintro e wi1_wb ⟨rfl,hci1_wb⟩;have HI1_wb:=lh ((Chg.refl [] wb).drew.t hci1_wb);have hT1_wb:(fun w':World=>w'.cell? ⟨nb,0,none⟩=some (.int .i64 x)∧w'.cell? ⟨nb,1,none⟩=some (.int .i64 y)∧w'.cell? ⟨gr,i,none⟩=some (.int .i64 mi)∧Chg [] wb w') wi1_wb:=⟨HI1_wb.out.c n0,HI1_wb.out.c n1,HI1_wb.out.c cmb,HI1_wb.out⟩;refine hK.out _ _ (fun _=>hT1_wb) ?_;clear hK K hci1_wb;cases hq1_wb:decide (y∈N) with
      | true =>
       have HQ1_wb:=lh (of_decide_eq_true hq1_wb);clear hq1_wb
       try simp only[Act.put,Z1,Z2,Z3,Z4,Z5,Z6]
       repeat
        first
         | (refine along_off rfl (by rfl) (by rfl) (fun _ _ _ h=>h) hT1_wb ?_;simp only[Act.put,Z1,Z2,Z3,Z4,Z5,Z6])
         | (refine along_read (v:=?_) rfl (by rfl) (by rfl) (fun _ _ _ h=>h) hT1_wb (fun w' hS'=>?_) ?_;rotate_left;(focus ((try dsimp only at hS');go_simp;try with_reducible rfl));simp only[Act.put,Z1,Z2,Z3,Z4,Z5,Z6])
         | (refine along_skip rfl (by rfl) (by rfl) hT1_wb ?_;simp only[Act.put,Z1,Z2,Z3,Z4,Z5,Z6])
       clear hT1_wb;have P1_wb:Hid (x=mi→y=but∨y∈N):=lh (fun _=>Or.inr HQ1_wb.out);have row1_wb:=lh (ROWB.out.chg HI1_wb.out (by simp));have hc1_wb:=lh (HCB.out.t HI1_wb.out);have n01_wb:=HI1_wb.out.c n0;have n11_wb:=HI1_wb.out.c n1;have cm1_wb:=HI1_wb.out.c cmb;have hnb1_wb:=lh (HI1_wb.out.heap HNB.out (by simp));clear n0 n1 cmb hS1_wb;refine along_done ?_;go_wp2;by_cases e12_wi1_wb:y=mi
       ·by_cases e22_wi1_wb:x=but
        ·have b12_wi1_wb:(y==mi)=true:=by rw[beq_iff_eq];exact e12_wi1_wb
         have b22_wi1_wb:(x==but)=true:=by rw[beq_iff_eq];exact e22_wi1_wb
         have b2a2_wi1_wb:(x != but)=false:=by simp[e22_wi1_wb]
         have b2b2_wi1_wb:decide (x=but)=true:=by simp[e22_wi1_wb]
         have b2c2_wi1_wb:(!decide (x=but))=false:=by simp[e22_wi1_wb]
         have PP2_wi1_wb:=lh e22_wi1_wb;clear e12_wi1_wb e22_wi1_wb;have hS2_wi1_wb:(fun w':World=>w'.cell? ⟨nb,0,none⟩=some (.int .i64 x)∧w'.cell? ⟨nb,1,none⟩=some (.int .i64 y)∧w'.cell? ⟨gr,i,none⟩=some (.int .i64 mi)∧Chg [] wi1_wb w') wi1_wb.drew:=⟨n01_wb,n11_wb,cm1_wb,(Chg.refl [] _).drew⟩;refine wp_region_way (fun w':World=>w'.cell? ⟨nb,0,none⟩=some (.int .i64 x)∧w'.cell? ⟨nb,1,none⟩=some (.int .i64 y)∧w'.cell? ⟨gr,i,none⟩=some (.int .i64 mi)∧Chg [] wi1_wb w') [0,1,2,3,4,5,6,7,8,9,10,11,12,13,14,15,16,18,19] (Way.line [0,1,2,3,4,5,6,7,8,9,10,11,12,13,14,15,16,17,18,19] .done) (by kernel_rfl) (by kernel_rfl) ?_;simp only[Way.line]
         repeat
          first
           | (refine along_off rfl (by rfl) (by rfl) (fun _ _ _ h=>h) hS2_wi1_wb ?_;simp only[Act.put,Z1,Z2,Z3,Z4,Z5,Z6])
           | (refine along_read (v:=?_) rfl (by rfl) (by rfl) (fun _ _ _ h=>h) hS2_wi1_wb (fun w' hS'=>?_) ?_;rotate_left;(focus ((try dsimp only at hS');go_simp;try with_reducible rfl));simp only[Act.put,Z1,Z2,Z3,Z4,Z5,Z6])
           | (refine along_skip rfl (by rfl) (by rfl) hS2_wi1_wb ?_;simp only[Act.put,Z1,Z2,Z3,Z4,Z5,Z6])
         generalize hwd2_wi1_wb:wi1_wb.drew=wd2_wi1_wb at *;have hcd2_wi1_wb:=lh (show Chg [] wi1_wb wd2_wi1_wb by rw[←hwd2_wi1_wb];exact (Chg.refl [] _).drew);clear hwd2_wi1_wb;have P2_wi1_wb:Hid (y=mi→x=but∨x∈N):=lh (fun _=>Or.inl PP2_wi1_wb.out);have row2_wi1_wb:=lh (row1_wb.out.chg hcd2_wi1_wb.out (by simp));have hc2_wi1_wb:=lh (hc1_wb.out.t hcd2_wi1_wb.out);have n02_wi1_wb:=hcd2_wi1_wb.out.c n01_wb;have n12_wi1_wb:=hcd2_wi1_wb.out.c n11_wb;have cm2_wi1_wb:=hcd2_wi1_wb.out.c cm1_wb;have hnb2_wi1_wb:=lh (hcd2_wi1_wb.out.heap hnb1_wb.out (by simp));clear n01_wb n11_wb cm1_wb hS2_wi1_wb;refine along_done ?_;go_wp2;have HN2_wi1_wb:=lh (Plain.SIn.next hin.out (by rw[HMI.out,HSEEN.out];exact⟨fun q=>(P1_wb.out q).imp id (fun q=>q),P2_wi1_wb.out⟩));go_wp2
         go_roundw
         case rel=>exact⟨_,k+1,by omega,by go_num,row2_wi1_wb.out,hc2_wi1_wb.out,HN2_wi1_wb⟩
         case measure=>simp[intOf];omega
        have b12_wi1_wb:(y==mi)=true:=by rw[beq_iff_eq];exact e12_wi1_wb
        have b22_wi1_wb:(x==but)=false:=by rw[beq_eq_false_iff_ne];exact e22_wi1_wb
        have b2a2_wi1_wb:(x != but)=true:=by simp[e22_wi1_wb]
        have b2b2_wi1_wb:decide (x=but)=false:=by simp[e22_wi1_wb]
        have b2c2_wi1_wb:(!decide (x=but))=true:=by simp[e22_wi1_wb]
        have PA2_wi1_wb:=lh e12_wi1_wb;have PP2_wi1_wb:=lh e22_wi1_wb;clear e12_wi1_wb e22_wi1_wb;have hS2_wi1_wb:(fun w':World=>w'.cell? ⟨nb,0,none⟩=some (.int .i64 x)∧w'.cell? ⟨nb,1,none⟩=some (.int .i64 y)∧w'.cell? ⟨gr,i,none⟩=some (.int .i64 mi)∧Chg [] wi1_wb w') wi1_wb.drew:=⟨n01_wb,n11_wb,cm1_wb,(Chg.refl [] _).drew⟩;refine wp_region_way (fun w':World=>w'.cell? ⟨nb,0,none⟩=some (.int .i64 x)∧w'.cell? ⟨nb,1,none⟩=some (.int .i64 y)∧w'.cell? ⟨gr,i,none⟩=some (.int .i64 mi)∧Chg [] wi1_wb w') [0,1,2,3,4,5,6,7,8,9,10,11,12,13,14,15,16,18,19] (Way.line [0,1,2,3,4,5,6,7,8,9,10,11,12,13,14,15,16,17,18,19] .done) (by kernel_rfl) (by kernel_rfl) ?_;simp only[Way.line]
        repeat
         first
          | (refine along_off rfl (by rfl) (by rfl) (fun _ _ _ h=>h) hS2_wi1_wb ?_;simp only[Act.put,Z1,Z2,Z3,Z4,Z5,Z6])
          | (refine along_read (v:=?_) rfl (by rfl) (by rfl) (fun _ _ _ h=>h) hS2_wi1_wb (fun w' hS'=>?_) ?_;rotate_left;(focus ((try dsimp only at hS');go_simp;try with_reducible rfl));simp only[Act.put,Z1,Z2,Z3,Z4,Z5,Z6])
          | (refine along_skip rfl (by rfl) (by rfl) hS2_wi1_wb ?_;simp only[Act.put,Z1,Z2,Z3,Z4,Z5,Z6])
        refine along_op rfl (by rfl) (by rfl) (fun K hK=>?_);go_simp;refine (in_any _ N x _ (row1_wb.out.chg (Chg.refl [] _).drew (by simp)).ints).mono ?_;rintro e wi2_wi1_wb ⟨rfl,hci2_wi1_wb⟩;have HI2_wi1_wb:=lh ((Chg.refl [] wi1_wb).drew.t hci2_wi1_wb);have hT2_wi1_wb:(fun w':World=>w'.cell? ⟨nb,0,none⟩=some (.int .i64 x)∧w'.cell? ⟨nb,1,none⟩=some (.int .i64 y)∧w'.cell? ⟨gr,i,none⟩=some (.int .i64 mi)∧Chg [] wi1_wb w') wi2_wi1_wb:=⟨HI2_wi1_wb.out.c n01_wb,HI2_wi1_wb.out.c n11_wb,HI2_wi1_wb.out.c cm1_wb,HI2_wi1_wb.out⟩;refine hK.out _ _ (fun _=>hT2_wi1_wb) ?_;clear hK K hci2_wi1_wb;cases hq2_wi1_wb:decide (x∈N) with
        | true =>
         have HQ2_wi1_wb:=lh (of_decide_eq_true hq2_wi1_wb);clear hq2_wi1_wb
         try simp only[Act.put,Z1,Z2,Z3,Z4,Z5,Z6]
         repeat
          first
           | (refine along_off rfl (by rfl) (by rfl) (fun _ _ _ h=>h) hT2_wi1_wb ?_;simp only[Act.put,Z1,Z2,Z3,Z4,Z5,Z6])
           | (refine along_read (v:=?_) rfl (by rfl) (by rfl) (fun _ _ _ h=>h) hT2_wi1_wb (fun w' hS'=>?_) ?_;rotate_left;(focus ((try dsimp only at hS');go_simp;try with_reducible rfl));simp only[Act.put,Z1,Z2,Z3,Z4,Z5,Z6])
           | (refine along_skip rfl (by rfl) (by rfl) hT2_wi1_wb ?_;simp only[Act.put,Z1,Z2,Z3,Z4,Z5,Z6])
         clear hT2_wi1_wb;have P2_wi1_wb:Hid (y=mi→x=but∨x∈N):=lh (fun _=>Or.inr HQ2_wi1_wb.out);have row2_wi1_wb:=lh (row1_wb.out.chg HI2_wi1_wb.out (by simp));have hc2_wi1_wb:=lh (hc1_wb.out.t HI2_wi1_wb.out);have n02_wi1_wb:=HI2_wi1_wb.out.c n01_wb;have n12_wi1_wb:=HI2_wi1_wb.out.c n11_wb;have cm2_wi1_wb:=HI2_wi1_wb.out.c cm1_wb;have hnb2_wi1_wb:=lh (HI2_wi1_wb.out.heap hnb1_wb.out (by simp));clear n01_wb n11_wb cm1_wb hS2_wi1_wb;refine along_done ?_;go_wp2;have HN2_wi1_wb:=lh (Plain.SIn.next hin.out (by rw[HMI.out,HSEEN.out];exact⟨fun q=>(P1_wb.out q).imp id (fun q=>q),P2_wi1_wb.out⟩));go_wp2
         go_roundw
         case rel=>exact⟨_,k+1,by omega,by go_num,row2_wi1_wb.out,hc2_wi1_wb.out,HN2_wi1_wb⟩
         case measure=>simp[intOf];omega
        | false =>
         have HQ2_wi1_wb:=lh (of_decide_eq_false hq2_wi1_wb);clear hq2_wi1_wb
         try simp only[Act.put,Z1,Z2,Z3,Z4,Z5,Z6]
         repeat
          first
           | (refine along_off rfl (by rfl) (by rfl) (fun _ _ _ h=>h) hT2_wi1_wb ?_;simp only[Act.put,Z1,Z2,Z3,Z4,Z5,Z6])
           | (refine along_read (v:=?_) rfl (by rfl) (by rfl) (fun _ _ _ h=>h) hT2_wi1_wb (fun w' hS'=>?_) ?_;rotate_left;(focus ((try dsimp only at hS');go_simp;try with_reducible rfl));simp only[Act.put,Z1,Z2,Z3,Z4,Z5,Z6])
           | (refine along_skip rfl (by rfl) (by rfl) hT2_wi1_wb ?_;simp only[Act.put,Z1,Z2,Z3,Z4,Z5,Z6])
         clear hT2_wi1_wb;have nO2_wi1_wb:=HI2_wi1_wb.out.c n01_wb;have nOn2_wi1_wb:=fun o=>cellNew nO2_wi1_wb o;have HRI2_wi1_wb:=lh (row1_wb.out.chg HI2_wi1_wb.out (by simp));have HMN:=lh (hin.out.1.len);have hNV:=hin.out.1.len;refine along_done ?_
         go_wp2_with (at_builtin;refine wl_app_read rfl _ _ rfl (B:=B) rfl rfl (HRI2_wi1_wb.out.chg ((Chg.refl [] _).alloc (.cells #[.int .i64 x] 3)) (by simp)) (lit_ints _ z1) (by have:=HI2_wi1_wb.out.size;have:=hc1_wb.out.size;have:=HB.out;simp;omega) (by simp;omega) ?_;intro va2_wi1_wb wa2_wi1_wb ra2_wi1_wb ca2_wi1_wb fa2_wi1_wb;obtain⟨mo2_wi1_wb,mc2_wi1_wb,e2_wi1_wb⟩:=ra2_wi1_wb.shape;subst e2_wi1_wb;have RA2_wi1_wb:=lh ra2_wi1_wb;have CA2_wi1_wb:=lh ca2_wi1_wb;clear ra2_wi1_wb ca2_wi1_wb fa2_wi1_wb)
         obtain⟨ga2_wi1_wb,hga2_wi1_wb,hgc2_wi1_wb⟩:=RA2_wi1_wb.out.some (by simp);subst hga2_wi1_wb;have FA2_wi1_wb:Hid (∀ j∈foot (.slice (some ⟨gr,0,none⟩) N.length nc),B≤j∧∃ cs r,(wi2_wi1_wb.alloc (.cells #[.int .i64 x] 3)).heap[j]?=some (.cells cs 3 r)):=by
          intro j hj;have hrow:=HRI2_wi1_wb.out.chg ((Chg.refl [] _).alloc (.cells #[.int .i64 x] 3)) (by simp);rw[hrow.foot] at hj;rcases hrow.1.2 with ⟨q,_⟩ | ⟨g5,c5,cur5,q,hb5,hh5,_⟩
          ·cases q
          rw[q] at hj;simp[Value.ownBlock] at hj;subst hj;exact⟨hb5,_,_,hh5⟩
         have hnbI2_wi1_wb:=((Chg.refl [] _).alloc (.cells #[.int .i64 x] 3)).heap (HI2_wi1_wb.out.heap hnb1_wb.out (by simp)) (by simp);have grn2_wi1_wb:gr≠nb:=by
          intro e;obtain⟨_,cs,r,hh⟩:=FA2_wi1_wb.out gr (by simp[foot,Value.ownBlock]);rw[e,hnbI2_wi1_wb] at hh;simp at hh
         have hBg2_wi1_wb:=(FA2_wi1_wb.out gr (by simp[foot,Value.ownBlock])).1;have CB2_wi1_wb:Chg [gr] (wi2_wi1_wb.alloc (.cells #[.int .i64 x] 3)) wa2_wi1_wb:=CA2_wi1_wb.out;have n02_wi1_wb:=CB2_wi1_wb.cell (cellNew (HI2_wi1_wb.out.c n01_wb) _) (by simpa using Ne.symm grn2_wi1_wb);have n12_wi1_wb:=CB2_wi1_wb.cell (cellNew (HI2_wi1_wb.out.c n11_wb) _) (by simpa using Ne.symm grn2_wi1_wb);have hnb2_wi1_wb:=lh (CB2_wi1_wb.heap hnbI2_wi1_wb (by simpa using Ne.symm grn2_wi1_wb));have hc2_wi1_wb:=lh (((hc1_wb.out.t HI2_wi1_wb.out).alloc (.cells #[.int .i64 x] 3)).trans CB2_wi1_wb (fun j hj=>Or.inr (by have:=HB.out;simp at hj;omega)));have hmi2_wi1_wb:Hid ((N++[x]).getD i 0=mi):=lh (by rw[Plain.getD_snoc hin.out.2.1];exact HMI.out);have cm2_wi1_wb:=hgc2_wi1_wb i (by have:=hin.out.2.1;simp;omega);rw[hmi2_wi1_wb.out] at cm2_wi1_wb;have hin2_wi1_wb:Hid (Plain.SIn g p but a (N++[x]) i k):=lh (Plain.SIn.add hin.out HQ2_wi1_wb.out HEV.out.1 (by rw[HMI.out,←PA2_wi1_wb.out];exact HNR.out.symm) PP2_wi1_wb.out);have P2_wi1_wb:Hid (y=mi→x=but∨x∈N++[x]):=lh (fun _=>Or.inr (by simp));have row2_wi1_wb:=lh RA2_wi1_wb.out;have HSUB2_wi1_wb:Hid (∀ q,q∈N→q∈N++[x]):=lh (fun q hq=>List.mem_append.2 (Or.inl hq));have hl2_wi1_wb:N.length+1=(N++[x]).length:=by simp
         have hiN2_wi1_wb:=hin2_wi1_wb.out.2.1;clear n01_wb n11_wb cm1_wb hnbI2_wi1_wb grn2_wi1_wb hBg2_wi1_wb CB2_wi1_wb CA2_wi1_wb FA2_wi1_wb RA2_wi1_wb hgc2_wi1_wb HMN hNV
         try rw[hl2_wi1_wb]
         clear hl2_wi1_wb;generalize N++[x]=N2_wi1_wb at *;have HN2_wi1_wb:=lh (Plain.SIn.next hin2_wi1_wb.out (by rw[hmi2_wi1_wb.out,HSEEN.out];exact⟨fun q=>(P1_wb.out q).imp id (fun q=>HSUB2_wi1_wb.out _ q),P2_wi1_wb.out⟩));go_wp2
         go_roundw
         case rel=>exact⟨_,k+1,by omega,by go_num,row2_wi1_wb.out,hc2_wi1_wb.out,HN2_wi1_wb⟩
         case measure=>simp[intOf];omega
       have b12_wi1_wb:(y==mi)=false:=by rw[beq_eq_false_iff_ne];exact e12_wi1_wb
       have PP2_wi1_wb:=lh e12_wi1_wb;clear e12_wi1_wb;have hS2_wi1_wb:(fun w':World=>w'.cell? ⟨nb,0,none⟩=some (.int .i64 x)∧w'.cell? ⟨nb,1,none⟩=some (.int .i64 y)∧w'.cell? ⟨gr,i,none⟩=some (.int .i64 mi)∧Chg [] wi1_wb w') wi1_wb.drew:=⟨n01_wb,n11_wb,cm1_wb,(Chg.refl [] _).drew⟩;refine wp_region_way (fun w':World=>w'.cell? ⟨nb,0,none⟩=some (.int .i64 x)∧w'.cell? ⟨nb,1,none⟩=some (.int .i64 y)∧w'.cell? ⟨gr,i,none⟩=some (.int .i64 mi)∧Chg [] wi1_wb w') [0,1,2,3,4,5,6,7,8,9,10,11,12,13,14,15,16,18,19] (Way.line [0,1,2,3,4,5,6,7,8,9,10,11,12,13,14,15,16,17,18,19] .done) (by kernel_rfl) (by kernel_rfl) ?_;simp only[Way.line]
       repeat
        first
         | (refine along_off rfl (by rfl) (by rfl) (fun _ _ _ h=>h) hS2_wi1_wb ?_;simp only[Act.put,Z1,Z2,Z3,Z4,Z5,Z6])
         | (refine along_read (v:=?_) rfl (by rfl) (by rfl) (fun _ _ _ h=>h) hS2_wi1_wb (fun w' hS'=>?_) ?_;rotate_left;(focus ((try dsimp only at hS');go_simp;try with_reducible rfl));simp only[Act.put,Z1,Z2,Z3,Z4,Z5,Z6])
         | (refine along_skip rfl (by rfl) (by rfl) hS2_wi1_wb ?_;simp only[Act.put,Z1,Z2,Z3,Z4,Z5,Z6])
       generalize hwd2_wi1_wb:wi1_wb.drew=wd2_wi1_wb at *;have hcd2_wi1_wb:=lh (show Chg [] wi1_wb wd2_wi1_wb by rw[←hwd2_wi1_wb];exact (Chg.refl [] _).drew);clear hwd2_wi1_wb;have P2_wi1_wb:Hid (y=mi→x=but∨x∈N):=lh (fun e=>absurd e PP2_wi1_wb.out);have row2_wi1_wb:=lh (row1_wb.out.chg hcd2_wi1_wb.out (by simp));have hc2_wi1_wb:=lh (hc1_wb.out.t hcd2_wi1_wb.out);have n02_wi1_wb:=hcd2_wi1_wb.out.c n01_wb;have n12_wi1_wb:=hcd2_wi1_wb.out.c n11_wb;have cm2_wi1_wb:=hcd2_wi1_wb.out.c cm1_wb;have hnb2_wi1_wb:=lh (hcd2_wi1_wb.out.heap hnb1_wb.out (by simp));clear n01_wb n11_wb cm1_wb hS2_wi1_wb;refine along_done ?_;go_wp2;have HN2_wi1_wb:=lh (Plain.SIn.next hin.out (by rw[HMI.out,HSEEN.out];exact⟨fun q=>(P1_wb.out q).imp id (fun q=>q),P2_wi1_wb.out⟩));go_wp2
       go_roundw
       case rel=>exact⟨_,k+1,by omega,by go_num,row2_wi1_wb.out,hc2_wi1_wb.out,HN2_wi1_wb⟩
       case measure=>simp[intOf];omega
      | false =>
       have HQ1_wb:=lh (of_decide_eq_false hq1_wb);clear hq1_wb
       try simp only[Act.put,Z1,Z2,Z3,Z4,Z5,Z6]
       repeat
        first
         | (refine along_off rfl (by rfl) (by rfl) (fun _ _ _ h=>h) hT1_wb ?_;simp only[Act.put,Z1,Z2,Z3,Z4,Z5,Z6])
         | (refine along_read (v:=?_) rfl (by rfl) (by rfl) (fun _ _ _ h=>h) hT1_wb (fun w' hS'=>?_) ?_;rotate_left;(focus ((try dsimp only at hS');go_simp;try with_reducible rfl));simp only[Act.put,Z1,Z2,Z3,Z4,Z5,Z6])
         | (refine along_skip rfl (by rfl) (by rfl) hT1_wb ?_;simp only[Act.put,Z1,Z2,Z3,Z4,Z5,Z6])
       clear hT1_wb;have nO1_wb:=HI1_wb.out.c n1;have nOn1_wb:=fun o=>cellNew nO1_wb o;have HRI1_wb:=lh (ROWB.out.chg HI1_wb.out (by simp));have HMN:=lh (hin.out.1.len);have hNV:=hin.out.1.len;refine along_done ?_
       go_wp2_with (at_builtin;refine wl_app_read rfl _ _ rfl (B:=B) rfl rfl (HRI1_wb.out.chg ((Chg.refl [] _).alloc (.cells #[.int .i64 y] 3)) (by simp)) (lit_ints _ z2) (by have:=HI1_wb.out.size;have:=HCB.out.size;have:=HB.out;simp;omega) (by simp;omega) ?_;intro va1_wb wa1_wb ra1_wb ca1_wb fa1_wb;obtain⟨mo1_wb,mc1_wb,e1_wb⟩:=ra1_wb.shape;subst e1_wb;have RA1_wb:=lh ra1_wb;have CA1_wb:=lh ca1_wb;clear ra1_wb ca1_wb fa1_wb)
       obtain⟨ga1_wb,hga1_wb,hgc1_wb⟩:=RA1_wb.out.some (by simp);subst hga1_wb;have FA1_wb:Hid (∀ j∈foot (.slice (some ⟨gr,0,none⟩) N.length nc),B≤j∧∃ cs r,(wi1_wb.alloc (.cells #[.int .i64 y] 3)).heap[j]?=some (.cells cs 3 r)):=by
        intro j hj;have hrow:=HRI1_wb.out.chg ((Chg.refl [] _).alloc (.cells #[.int .i64 y] 3)) (by simp);rw[hrow.foot] at hj;rcases hrow.1.2 with ⟨q,_⟩ | ⟨g5,c5,cur5,q,hb5,hh5,_⟩
        ·cases q
        rw[q] at hj;simp[Value.ownBlock] at hj;subst hj;exact⟨hb5,_,_,hh5⟩
       have hnbI1_wb:=((Chg.refl [] _).alloc (.cells #[.int .i64 y] 3)).heap (HI1_wb.out.heap HNB.out (by simp)) (by simp);have grn1_wb:gr≠nb:=by
        intro e;obtain⟨_,cs,r,hh⟩:=FA1_wb.out gr (by simp[foot,Value.ownBlock]);rw[e,hnbI1_wb] at hh;simp at hh
       have hBg1_wb:=(FA1_wb.out gr (by simp[foot,Value.ownBlock])).1;have CB1_wb:Chg [gr] (wi1_wb.alloc (.cells #[.int .i64 y] 3)) wa1_wb:=CA1_wb.out;have n01_wb:=CB1_wb.cell (cellNew (HI1_wb.out.c n0) _) (by simpa using Ne.symm grn1_wb);have n11_wb:=CB1_wb.cell (cellNew (HI1_wb.out.c n1) _) (by simpa using Ne.symm grn1_wb);have hnb1_wb:=lh (CB1_wb.heap hnbI1_wb (by simpa using Ne.symm grn1_wb));have hc1_wb:=lh (((HCB.out.t HI1_wb.out).alloc (.cells #[.int .i64 y] 3)).trans CB1_wb (fun j hj=>Or.inr (by have:=HB.out;simp at hj;omega)));have hmi1_wb:Hid ((N++[y]).getD i 0=mi):=lh (by rw[Plain.getD_snoc hin.out.2.1];exact HMI.out);have cm1_wb:=hgc1_wb i (by have:=hin.out.2.1;simp;omega);rw[hmi1_wb.out] at cm1_wb;have hin1_wb:Hid (Plain.SIn g p but a (N++[y]) i k):=lh (Plain.SIn.add hin.out HQ1_wb.out HEV.out.2 (by rw[HMI.out,←PA1_wb.out];exact HNR.out) PP1_wb.out);have P1_wb:Hid (x=mi→y=but∨y∈N++[y]):=lh (fun _=>Or.inr (by simp));have row1_wb:=lh RA1_wb.out;have HSUB1_wb:Hid (∀ q,q∈N→q∈N++[y]):=lh (fun q hq=>List.mem_append.2 (Or.inl hq));have hl1_wb:N.length+1=(N++[y]).length:=by simp
       have hiN1_wb:=hin1_wb.out.2.1;clear n0 n1 cmb hnbI1_wb grn1_wb hBg1_wb CB1_wb CA1_wb FA1_wb RA1_wb hgc1_wb HMN hNV
       try rw[hl1_wb]
       clear hl1_wb;generalize N++[y]=N1_wb at *;by_cases e12_wa1_wb:y=mi
       ·by_cases e22_wa1_wb:x=but
        ·have b12_wa1_wb:(y==mi)=true:=by rw[beq_iff_eq];exact e12_wa1_wb
         have b22_wa1_wb:(x==but)=true:=by rw[beq_iff_eq];exact e22_wa1_wb
         have b2a2_wa1_wb:(x != but)=false:=by simp[e22_wa1_wb]
         have b2b2_wa1_wb:decide (x=but)=true:=by simp[e22_wa1_wb]
         have b2c2_wa1_wb:(!decide (x=but))=false:=by simp[e22_wa1_wb]
         have PP2_wa1_wb:=lh e22_wa1_wb;clear e12_wa1_wb e22_wa1_wb;have hS2_wa1_wb:(fun w':World=>w'.cell? ⟨nb,0,none⟩=some (.int .i64 x)∧w'.cell? ⟨nb,1,none⟩=some (.int .i64 y)∧w'.cell? ⟨ga1_wb,i,none⟩=some (.int .i64 mi)∧Chg [] wa1_wb w') wa1_wb.drew:=⟨n01_wb,n11_wb,cm1_wb,(Chg.refl [] _).drew⟩;refine wp_region_way (fun w':World=>w'.cell? ⟨nb,0,none⟩=some (.int .i64 x)∧w'.cell? ⟨nb,1,none⟩=some (.int .i64 y)∧w'.cell? ⟨ga1_wb,i,none⟩=some (.int .i64 mi)∧Chg [] wa1_wb w') [0,1,2,3,4,5,6,7,8,9,10,11,12,13,14,15,16,18,19] (Way.line [0,1,2,3,4,5,6,7,8,9,10,11,12,13,14,15,16,17,18,19] .done) (by kernel_rfl) (by kernel_rfl) ?_;simp only[Way.line]
         repeat
          first
           | (refine along_off rfl (by rfl) (by rfl) (fun _ _ _ h=>h) hS2_wa1_wb ?_;simp only[Act.put,Z1,Z2,Z3,Z4,Z5,Z6])
           | (refine along_read (v:=?_) rfl (by rfl) (by rfl) (fun _ _ _ h=>h) hS2_wa1_wb (fun w' hS'=>?_) ?_;rotate_left;(focus ((try dsimp only at hS');go_simp;try with_reducible rfl));simp only[Act.put,Z1,Z2,Z3,Z4,Z5,Z6])
           | (refine along_skip rfl (by rfl) (by rfl) hS2_wa1_wb ?_;simp only[Act.put,Z1,Z2,Z3,Z4,Z5,Z6])
         generalize hwd2_wa1_wb:wa1_wb.drew=wd2_wa1_wb at *;have hcd2_wa1_wb:=lh (show Chg [] wa1_wb wd2_wa1_wb by rw[←hwd2_wa1_wb];exact (Chg.refl [] _).drew);clear hwd2_wa1_wb;have P2_wa1_wb:Hid (y=mi→x=but∨x∈N1_wb):=lh (fun _=>Or.inl PP2_wa1_wb.out);have row2_wa1_wb:=lh (row1_wb.out.chg hcd2_wa1_wb.out (by simp));have hc2_wa1_wb:=lh (hc1_wb.out.t hcd2_wa1_wb.out);have n02_wa1_wb:=hcd2_wa1_wb.out.c n01_wb;have n12_wa1_wb:=hcd2_wa1_wb.out.c n11_wb;have cm2_wa1_wb:=hcd2_wa1_wb.out.c cm1_wb;have hnb2_wa1_wb:=lh (hcd2_wa1_wb.out.heap hnb1_wb.out (by simp));clear n01_wb n11_wb cm1_wb hS2_wa1_wb;refine along_done ?_;go_wp2;have HN2_wa1_wb:=lh (Plain.SIn.next hin1_wb.out (by rw[hmi1_wb.out,HSEEN.out];exact⟨fun q=>(P1_wb.out q).imp id (fun q=>q),P2_wa1_wb.out⟩));go_wp2
         go_roundw
         case rel=>exact⟨_,k+1,by omega,by go_num,row2_wa1_wb.out,hc2_wa1_wb.out,HN2_wa1_wb⟩
         case measure=>simp[intOf];omega
        have b12_wa1_wb:(y==mi)=true:=by rw[beq_iff_eq];exact e12_wa1_wb
        have b22_wa1_wb:(x==but)=false:=by rw[beq_eq_false_iff_ne];exact e22_wa1_wb
        have b2a2_wa1_wb:(x != but)=true:=by simp[e22_wa1_wb]
        have b2b2_wa1_wb:decide (x=but)=false:=by simp[e22_wa1_wb]
        have b2c2_wa1_wb:(!decide (x=but))=true:=by simp[e22_wa1_wb]
        have PA2_wa1_wb:=lh e12_wa1_wb;have PP2_wa1_wb:=lh e22_wa1_wb;clear e12_wa1_wb e22_wa1_wb;have hS2_wa1_wb:(fun w':World=>w'.cell? ⟨nb,0,none⟩=some (.int .i64 x)∧w'.cell? ⟨nb,1,none⟩=some (.int .i64 y)∧w'.cell? ⟨ga1_wb,i,none⟩=some (.int .i64 mi)∧Chg [] wa1_wb w') wa1_wb.drew:=⟨n01_wb,n11_wb,cm1_wb,(Chg.refl [] _).drew⟩;refine wp_region_way (fun w':World=>w'.cell? ⟨nb,0,none⟩=some (.int .i64 x)∧w'.cell? ⟨nb,1,none⟩=some (.int .i64 y)∧w'.cell? ⟨ga1_wb,i,none⟩=some (.int .i64 mi)∧Chg [] wa1_wb w') [0,1,2,3,4,5,6,7,8,9,10,11,12,13,14,15,16,18,19] (Way.line [0,1,2,3,4,5,6,7,8,9,10,11,12,13,14,15,16,17,18,19] .done) (by kernel_rfl) (by kernel_rfl) ?_;simp only[Way.line]
        repeat
         first
          | (refine along_off rfl (by rfl) (by rfl) (fun _ _ _ h=>h) hS2_wa1_wb ?_;simp only[Act.put,Z1,Z2,Z3,Z4,Z5,Z6])
          | (refine along_read (v:=?_) rfl (by rfl) (by rfl) (fun _ _ _ h=>h) hS2_wa1_wb (fun w' hS'=>?_) ?_;rotate_left;(focus ((try dsimp only at hS');go_simp;try with_reducible rfl));simp only[Act.put,Z1,Z2,Z3,Z4,Z5,Z6])
          | (refine along_skip rfl (by rfl) (by rfl) hS2_wa1_wb ?_;simp only[Act.put,Z1,Z2,Z3,Z4,Z5,Z6])
        refine along_op rfl (by rfl) (by rfl) (fun K hK=>?_);go_simp;refine (in_any _ N1_wb x _ (row1_wb.out.chg (Chg.refl [] _).drew (by simp)).ints).mono ?_;rintro e wi2_wa1_wb ⟨rfl,hci2_wa1_wb⟩;have HI2_wa1_wb:=lh ((Chg.refl [] wa1_wb).drew.t hci2_wa1_wb);have hT2_wa1_wb:(fun w':World=>w'.cell? ⟨nb,0,none⟩=some (.int .i64 x)∧w'.cell? ⟨nb,1,none⟩=some (.int .i64 y)∧w'.cell? ⟨ga1_wb,i,none⟩=some (.int .i64 mi)∧Chg [] wa1_wb w') wi2_wa1_wb:=⟨HI2_wa1_wb.out.c n01_wb,HI2_wa1_wb.out.c n11_wb,HI2_wa1_wb.out.c cm1_wb,HI2_wa1_wb.out⟩;refine hK.out _ _ (fun _=>hT2_wa1_wb) ?_;clear hK K hci2_wa1_wb;cases hq2_wa1_wb:decide (x∈N1_wb) with
        | true =>
         have HQ2_wa1_wb:=lh (of_decide_eq_true hq2_wa1_wb);clear hq2_wa1_wb
         try simp only[Act.put,Z1,Z2,Z3,Z4,Z5,Z6]
         repeat
          first
           | (refine along_off rfl (by rfl) (by rfl) (fun _ _ _ h=>h) hT2_wa1_wb ?_;simp only[Act.put,Z1,Z2,Z3,Z4,Z5,Z6])
           | (refine along_read (v:=?_) rfl (by rfl) (by rfl) (fun _ _ _ h=>h) hT2_wa1_wb (fun w' hS'=>?_) ?_;rotate_left;(focus ((try dsimp only at hS');go_simp;try with_reducible rfl));simp only[Act.put,Z1,Z2,Z3,Z4,Z5,Z6])
           | (refine along_skip rfl (by rfl) (by rfl) hT2_wa1_wb ?_;simp only[Act.put,Z1,Z2,Z3,Z4,Z5,Z6])
         clear hT2_wa1_wb;have P2_wa1_wb:Hid (y=mi→x=but∨x∈N1_wb):=lh (fun _=>Or.inr HQ2_wa1_wb.out);have row2_wa1_wb:=lh (row1_wb.out.chg HI2_wa1_wb.out (by simp));have hc2_wa1_wb:=lh (hc1_wb.out.t HI2_wa1_wb.out);have n02_wa1_wb:=HI2_wa1_wb.out.c n01_wb;have n12_wa1_wb:=HI2_wa1_wb.out.c n11_wb;have cm2_wa1_wb:=HI2_wa1_wb.out.c cm1_wb;have hnb2_wa1_wb:=lh (HI2_wa1_wb.out.heap hnb1_wb.out (by simp));clear n01_wb n11_wb cm1_wb hS2_wa1_wb;refine along_done ?_;go_wp2;have HN2_wa1_wb:=lh (Plain.SIn.next hin1_wb.out (by rw[hmi1_wb.out,HSEEN.out];exact⟨fun q=>(P1_wb.out q).imp id (fun q=>q),P2_wa1_wb.out⟩));go_wp2
         go_roundw
         case rel=>exact⟨_,k+1,by omega,by go_num,row2_wa1_wb.out,hc2_wa1_wb.out,HN2_wa1_wb⟩
         case measure=>simp[intOf];omega
        | false =>
         have HQ2_wa1_wb:=lh (of_decide_eq_false hq2_wa1_wb);clear hq2_wa1_wb
         try simp only[Act.put,Z1,Z2,Z3,Z4,Z5,Z6]
         repeat
          first
           | (refine along_off rfl (by rfl) (by rfl) (fun _ _ _ h=>h) hT2_wa1_wb ?_;simp only[Act.put,Z1,Z2,Z3,Z4,Z5,Z6])
           | (refine along_read (v:=?_) rfl (by rfl) (by rfl) (fun _ _ _ h=>h) hT2_wa1_wb (fun w' hS'=>?_) ?_;rotate_left;(focus ((try dsimp only at hS');go_simp;try with_reducible rfl));simp only[Act.put,Z1,Z2,Z3,Z4,Z5,Z6])
           | (refine along_skip rfl (by rfl) (by rfl) hT2_wa1_wb ?_;simp only[Act.put,Z1,Z2,Z3,Z4,Z5,Z6])
         clear hT2_wa1_wb;have nO2_wa1_wb:=HI2_wa1_wb.out.c n01_wb;have nOn2_wa1_wb:=fun o=>cellNew nO2_wa1_wb o;have HRI2_wa1_wb:=lh (row1_wb.out.chg HI2_wa1_wb.out (by simp));have HMN:=lh (hin1_wb.out.1.len);have hNV:=hin1_wb.out.1.len;refine along_done ?_
         go_wp2_with (at_builtin;refine wl_app_read rfl _ _ rfl (B:=B) rfl rfl (HRI2_wa1_wb.out.chg ((Chg.refl [] _).alloc (.cells #[.int .i64 x] 3)) (by simp)) (lit_ints _ z1) (by have:=HI2_wa1_wb.out.size;have:=hc1_wb.out.size;have:=HB.out;simp;omega) (by simp;omega) ?_;intro va2_wa1_wb wa2_wa1_wb ra2_wa1_wb ca2_wa1_wb fa2_wa1_wb;obtain⟨mo2_wa1_wb,mc2_wa1_wb,e2_wa1_wb⟩:=ra2_wa1_wb.shape;subst e2_wa1_wb;have RA2_wa1_wb:=lh ra2_wa1_wb;have CA2_wa1_wb:=lh ca2_wa1_wb;clear ra2_wa1_wb ca2_wa1_wb fa2_wa1_wb)
         obtain⟨ga2_wa1_wb,hga2_wa1_wb,hgc2_wa1_wb⟩:=RA2_wa1_wb.out.some (by simp);subst hga2_wa1_wb;have FA2_wa1_wb:Hid (∀ j∈foot (.slice (some ⟨ga1_wb,0,none⟩) N1_wb.length mc1_wb),B≤j∧∃ cs r,(wi2_wa1_wb.alloc (.cells #[.int .i64 x] 3)).heap[j]?=some (.cells cs 3 r)):=by
          intro j hj;have hrow:=HRI2_wa1_wb.out.chg ((Chg.refl [] _).alloc (.cells #[.int .i64 x] 3)) (by simp);rw[hrow.foot] at hj;rcases hrow.1.2 with ⟨q,_⟩ | ⟨g5,c5,cur5,q,hb5,hh5,_⟩
          ·cases q
          rw[q] at hj;simp[Value.ownBlock] at hj;subst hj;exact⟨hb5,_,_,hh5⟩
         have hnbI2_wa1_wb:=((Chg.refl [] _).alloc (.cells #[.int .i64 x] 3)).heap (HI2_wa1_wb.out.heap hnb1_wb.out (by simp)) (by simp);have grn2_wa1_wb:ga1_wb≠nb:=by
          intro e;obtain⟨_,cs,r,hh⟩:=FA2_wa1_wb.out ga1_wb (by simp[foot,Value.ownBlock]);rw[e,hnbI2_wa1_wb] at hh;simp at hh
         have hBg2_wa1_wb:=(FA2_wa1_wb.out ga1_wb (by simp[foot,Value.ownBlock])).1;have CB2_wa1_wb:Chg [ga1_wb] (wi2_wa1_wb.alloc (.cells #[.int .i64 x] 3)) wa2_wa1_wb:=CA2_wa1_wb.out;have n02_wa1_wb:=CB2_wa1_wb.cell (cellNew (HI2_wa1_wb.out.c n01_wb) _) (by simpa using Ne.symm grn2_wa1_wb);have n12_wa1_wb:=CB2_wa1_wb.cell (cellNew (HI2_wa1_wb.out.c n11_wb) _) (by simpa using Ne.symm grn2_wa1_wb);have hnb2_wa1_wb:=lh (CB2_wa1_wb.heap hnbI2_wa1_wb (by simpa using Ne.symm grn2_wa1_wb));have hc2_wa1_wb:=lh (((hc1_wb.out.t HI2_wa1_wb.out).alloc (.cells #[.int .i64 x] 3)).trans CB2_wa1_wb (fun j hj=>Or.inr (by have:=HB.out;simp at hj;omega)));have hmi2_wa1_wb:Hid ((N1_wb++[x]).getD i 0=mi):=lh (by rw[Plain.getD_snoc hin1_wb.out.2.1];exact hmi1_wb.out);have cm2_wa1_wb:=hgc2_wa1_wb i (by have:=hin1_wb.out.2.1;simp;omega);rw[hmi2_wa1_wb.out] at cm2_wa1_wb;have hin2_wa1_wb:Hid (Plain.SIn g p but a (N1_wb++[x]) i k):=lh (Plain.SIn.add hin1_wb.out HQ2_wa1_wb.out HEV.out.1 (by rw[hmi1_wb.out,←PA2_wa1_wb.out];exact HNR.out.symm) PP2_wa1_wb.out);have P2_wa1_wb:Hid (y=mi→x=but∨x∈N1_wb++[x]):=lh (fun _=>Or.inr (by simp));have row2_wa1_wb:=lh RA2_wa1_wb.out;have HSUB2_wa1_wb:Hid (∀ q,q∈N1_wb→q∈N1_wb++[x]):=lh (fun q hq=>List.mem_append.2 (Or.inl hq));have hl2_wa1_wb:N1_wb.length+1=(N1_wb++[x]).length:=by simp
         have hiN2_wa1_wb:=hin2_wa1_wb.out.2.1;clear n01_wb n11_wb cm1_wb hnbI2_wa1_wb grn2_wa1_wb hBg2_wa1_wb CB2_wa1_wb CA2_wa1_wb FA2_wa1_wb RA2_wa1_wb hgc2_wa1_wb HMN hNV
         try rw[hl2_wa1_wb]
         clear hl2_wa1_wb;generalize N1_wb++[x]=N2_wa1_wb at *;have HN2_wa1_wb:=lh (Plain.SIn.next hin2_wa1_wb.out (by rw[hmi2_wa1_wb.out,HSEEN.out];exact⟨fun q=>(P1_wb.out q).imp id (fun q=>HSUB2_wa1_wb.out _ q),P2_wa1_wb.out⟩));go_wp2
         go_roundw
         case rel=>exact⟨_,k+1,by omega,by go_num,row2_wa1_wb.out,hc2_wa1_wb.out,HN2_wa1_wb⟩
         case measure=>simp[intOf];omega
       have b12_wa1_wb:(y==mi)=false:=by rw[beq_eq_false_iff_ne];exact e12_wa1_wb
       have PP2_wa1_wb:=lh e12_wa1_wb;clear e12_wa1_wb;have hS2_wa1_wb:(fun w':World=>w'.cell? ⟨nb,0,none⟩=some (.int .i64 x)∧w'.cell? ⟨nb,1,none⟩=some (.int .i64 y)∧w'.cell? ⟨ga1_wb,i,none⟩=some (.int .i64 mi)∧Chg [] wa1_wb w') wa1_wb.drew:=⟨n01_wb,n11_wb,cm1_wb,(Chg.refl [] _).drew⟩;refine wp_region_way (fun w':World=>w'.cell? ⟨nb,0,none⟩=some (.int .i64 x)∧w'.cell? ⟨nb,1,none⟩=some (.int .i64 y)∧w'.cell? ⟨ga1_wb,i,none⟩=some (.int .i64 mi)∧Chg [] wa1_wb w') [0,1,2,3,4,5,6,7,8,9,10,11,12,13,14,15,16,18,19] (Way.line [0,1,2,3,4,5,6,7,8,9,10,11,12,13,14,15,16,17,18,19] .done) (by kernel_rfl) (by kernel_rfl) ?_;simp only[Way.line]
       repeat
        first
         | (refine along_off rfl (by rfl) (by rfl) (fun _ _ _ h=>h) hS2_wa1_wb ?_;simp only[Act.put,Z1,Z2,Z3,Z4,Z5,Z6])
         | (refine along_read (v:=?_) rfl (by rfl) (by rfl) (fun _ _ _ h=>h) hS2_wa1_wb (fun w' hS'=>?_) ?_;rotate_left;(focus ((try dsimp only at hS');go_simp;try with_reducible rfl));simp only[Act.put,Z1,Z2,Z3,Z4,Z5,Z6])
         | (refine along_skip rfl (by rfl) (by rfl) hS2_wa1_wb ?_;simp only[Act.put,Z1,Z2,Z3,Z4,Z5,Z6])
       generalize hwd2_wa1_wb:wa1_wb.drew=wd2_wa1_wb at *;have hcd2_wa1_wb:=lh (show Chg [] wa1_wb wd2_wa1_wb by rw[←hwd2_wa1_wb];exact (Chg.refl [] _).drew);clear hwd2_wa1_wb;have P2_wa1_wb:Hid (y=mi→x=but∨x∈N1_wb):=lh (fun e=>absurd e PP2_wa1_wb.out);have row2_wa1_wb:=lh (row1_wb.out.chg hcd2_wa1_wb.out (by simp));have hc2_wa1_wb:=lh (hc1_wb.out.t hcd2_wa1_wb.out);have n02_wa1_wb:=hcd2_wa1_wb.out.c n01_wb;have n12_wa1_wb:=hcd2_wa1_wb.out.c n11_wb;have cm2_wa1_wb:=hcd2_wa1_wb.out.c cm1_wb;have hnb2_wa1_wb:=lh (hcd2_wa1_wb.out.heap hnb1_wb.out (by simp));clear n01_wb n11_wb cm1_wb hS2_wa1_wb;refine along_done ?_;go_wp2;have HN2_wa1_wb:=lh (Plain.SIn.next hin1_wb.out (by rw[hmi1_wb.out,HSEEN.out];exact⟨fun q=>(P1_wb.out q).imp id (fun q=>q),P2_wa1_wb.out⟩));go_wp2
       go_roundw
       case rel=>exact⟨_,k+1,by omega,by go_num,row2_wa1_wb.out,hc2_wa1_wb.out,HN2_wa1_wb⟩
       case measure=>simp[intOf];omega
     have b11_wb:(x==mi)=false:=by rw[beq_eq_false_iff_ne];exact e11_wb
     have PP1_wb:=lh e11_wb;clear e11_wb;have hS1_wb:(fun w':World=>w'.cell? ⟨nb,0,none⟩=some (.int .i64 x)∧w'.cell? ⟨nb,1,none⟩=some (.int .i64 y)∧w'.cell? ⟨gr,i,none⟩=some (.int .i64 mi)∧Chg [] wb w') wb.drew:=⟨n0,n1,cmb,(Chg.refl [] _).drew⟩;refine wp_region_way (fun w':World=>w'.cell? ⟨nb,0,none⟩=some (.int .i64 x)∧w'.cell? ⟨nb,1,none⟩=some (.int .i64 y)∧w'.cell? ⟨gr,i,none⟩=some (.int .i64 mi)∧Chg [] wb w') [0,1,2,3,4,5,6,7,8,9,10,11,12,13,14,15,16,18,19] (Way.line [0,1,2,3,4,5,6,7,8,9,10,11,12,13,14,15,16,17,18,19] .done) (by kernel_rfl) (by kernel_rfl) ?_;simp only[Way.line]
     repeat
      first
       | (refine along_off rfl (by rfl) (by rfl) (fun _ _ _ h=>h) hS1_wb ?_;simp only[Act.put,Z1,Z2,Z3,Z4,Z5,Z6])
       | (refine along_read (v:=?_) rfl (by rfl) (by rfl) (fun _ _ _ h=>h) hS1_wb (fun w' hS'=>?_) ?_;rotate_left;(focus ((try dsimp only at hS');go_simp;try with_reducible rfl));simp only[Act.put,Z1,Z2,Z3,Z4,Z5,Z6])
       | (refine along_skip rfl (by rfl) (by rfl) hS1_wb ?_;simp only[Act.put,Z1,Z2,Z3,Z4,Z5,Z6])
     generalize hwd1_wb:wb.drew=wd1_wb at *;have hcd1_wb:=lh (show Chg [] wb wd1_wb by rw[←hwd1_wb];exact (Chg.refl [] _).drew);clear hwd1_wb;have P1_wb:Hid (x=mi→y=but∨y∈N):=lh (fun e=>absurd e PP1_wb.out);have row1_wb:=lh (ROWB.out.chg hcd1_wb.out (by simp));have hc1_wb:=lh (HCB.out.t hcd1_wb.out);have n01_wb:=hcd1_wb.out.c n0;have n11_wb:=hcd1_wb.out.c n1;have cm1_wb:=hcd1_wb.out.c cmb;have hnb1_wb:=lh (hcd1_wb.out.heap HNB.out (by simp));clear n0 n1 cmb hS1_wb;refine along_done ?_;go_wp2;by_cases e12_wd1_wb:y=mi
     ·by_cases e22_wd1_wb:x=but
      ·have b12_wd1_wb:(y==mi)=true:=by rw[beq_iff_eq];exact e12_wd1_wb
       have b22_wd1_wb:(x==but)=true:=by rw[beq_iff_eq];exact e22_wd1_wb
       have b2a2_wd1_wb:(x != but)=false:=by simp[e22_wd1_wb]
       have b2b2_wd1_wb:decide (x=but)=true:=by simp[e22_wd1_wb]
       have b2c2_wd1_wb:(!decide (x=but))=false:=by simp[e22_wd1_wb]
       have PP2_wd1_wb:=lh e22_wd1_wb;clear e12_wd1_wb e22_wd1_wb;have hS2_wd1_wb:(fun w':World=>w'.cell? ⟨nb,0,none⟩=some (.int .i64 x)∧w'.cell? ⟨nb,1,none⟩=some (.int .i64 y)∧w'.cell? ⟨gr,i,none⟩=some (.int .i64 mi)∧Chg [] wd1_wb w') wd1_wb.drew:=⟨n01_wb,n11_wb,cm1_wb,(Chg.refl [] _).drew⟩;refine wp_region_way (fun w':World=>w'.cell? ⟨nb,0,none⟩=some (.int .i64 x)∧w'.cell? ⟨nb,1,none⟩=some (.int .i64 y)∧w'.cell? ⟨gr,i,none⟩=some (.int .i64 mi)∧Chg [] wd1_wb w') [0,1,2,3,4,5,6,7,8,9,10,11,12,13,14,15,16,18,19] (Way.line [0,1,2,3,4,5,6,7,8,9,10,11,12,13,14,15,16,17,18,19] .done) (by kernel_rfl) (by kernel_rfl) ?_;simp only[Way.line]
       repeat
        first
         | (refine along_off rfl (by rfl) (by rfl) (fun _ _ _ h=>h) hS2_wd1_wb ?_;simp only[Act.put,Z1,Z2,Z3,Z4,Z5,Z6])
         | (refine along_read (v:=?_) rfl (by rfl) (by rfl) (fun _ _ _ h=>h) hS2_wd1_wb (fun w' hS'=>?_) ?_;rotate_left;(focus ((try dsimp only at hS');go_simp;try with_reducible rfl));simp only[Act.put,Z1,Z2,Z3,Z4,Z5,Z6])
         | (refine along_skip rfl (by rfl) (by rfl) hS2_wd1_wb ?_;simp only[Act.put,Z1,Z2,Z3,Z4,Z5,Z6])
       generalize hwd2_wd1_wb:wd1_wb.drew=wd2_wd1_wb at *;have hcd2_wd1_wb:=lh (show Chg [] wd1_wb wd2_wd1_wb by rw[←hwd2_wd1_wb];exact (Chg.refl [] _).drew);clear hwd2_wd1_wb;have P2_wd1_wb:Hid (y=mi→x=but∨x∈N):=lh (fun _=>Or.inl PP2_wd1_wb.out);have row2_wd1_wb:=lh (row1_wb.out.chg hcd2_wd1_wb.out (by simp));have hc2_wd1_wb:=lh (hc1_wb.out.t hcd2_wd1_wb.out);have n02_wd1_wb:=hcd2_wd1_wb.out.c n01_wb;have n12_wd1_wb:=hcd2_wd1_wb.out.c n11_wb;have cm2_wd1_wb:=hcd2_wd1_wb.out.c cm1_wb;have hnb2_wd1_wb:=lh (hcd2_wd1_wb.out.heap hnb1_wb.out (by simp));clear n01_wb n11_wb cm1_wb hS2_wd1_wb;refine along_done ?_;go_wp2;have HN2_wd1_wb:=lh (Plain.SIn.next hin.out (by rw[HMI.out,HSEEN.out];exact⟨fun q=>(P1_wb.out q).imp id (fun q=>q),P2_wd1_wb.out⟩));go_wp2
       go_roundw
       case rel=>exact⟨_,k+1,by omega,by go_num,row2_wd1_wb.out,hc2_wd1_wb.out,HN2_wd1_wb⟩
       case measure=>simp[intOf];omega
      have b12_wd1_wb:(y==mi)=true:=by rw[beq_iff_eq];exact e12_wd1_wb
      have b22_wd1_wb:(x==but)=false:=by rw[beq_eq_false_iff_ne];exact e22_wd1_wb
      have b2a2_wd1_wb:(x != but)=true:=by simp[e22_wd1_wb]
      have b2b2_wd1_wb:decide (x=but)=false:=by simp[e22_wd1_wb]
      have b2c2_wd1_wb:(!decide (x=but))=true:=by simp[e22_wd1_wb]
      have PA2_wd1_wb:=lh e12_wd1_wb;have PP2_wd1_wb:=lh e22_wd1_wb;clear e12_wd1_wb e22_wd1_wb;have hS2_wd1_wb:(fun w':World=>w'.cell? ⟨nb,0,none⟩=some (.int .i64 x)∧w'.cell? ⟨nb,1,none⟩=some (.int .i64 y)∧w'.cell? ⟨gr,i,none⟩=some (.int .i64 mi)∧Chg [] wd1_wb w') wd1_wb.drew:=⟨n01_wb,n11_wb,cm1_wb,(Chg.refl [] _).drew⟩;refine wp_region_way (fun w':World=>w'.cell? ⟨nb,0,none⟩=some (.int .i64 x)∧w'.cell? ⟨nb,1,none⟩=some (.int .i64 y)∧w'.cell? ⟨gr,i,none⟩=some (.int .i64 mi)∧Chg [] wd1_wb w') [0,1,2,3,4,5,6,7,8,9,10,11,12,13,14,15,16,18,19] (Way.line [0,1,2,3,4,5,6,7,8,9,10,11,12,13,14,15,16,17,18,19] .done) (by kernel_rfl) (by kernel_rfl) ?_;simp only[Way.line]
      repeat
       first
        | (refine along_off rfl (by rfl) (by rfl) (fun _ _ _ h=>h) hS2_wd1_wb ?_;simp only[Act.put,Z1,Z2,Z3,Z4,Z5,Z6])
        | (refine along_read (v:=?_) rfl (by rfl) (by rfl) (fun _ _ _ h=>h) hS2_wd1_wb (fun w' hS'=>?_) ?_;rotate_left;(focus ((try dsimp only at hS');go_simp;try with_reducible rfl));simp only[Act.put,Z1,Z2,Z3,Z4,Z5,Z6])
        | (refine along_skip rfl (by rfl) (by rfl) hS2_wd1_wb ?_;simp only[Act.put,Z1,Z2,Z3,Z4,Z5,Z6])
      refine along_op rfl (by rfl) (by rfl) (fun K hK=>?_);go_simp;refine (in_any _ N x _ (row1_wb.out.chg (Chg.refl [] _).drew (by simp)).ints).mono ?_;rintro e wi2_wd1_wb ⟨rfl,hci2_wd1_wb⟩;have HI2_wd1_wb:=lh ((Chg.refl [] wd1_wb).drew.t hci2_wd1_wb);have hT2_wd1_wb:(fun w':World=>w'.cell? ⟨nb,0,none⟩=some (.int .i64 x)∧w'.cell? ⟨nb,1,none⟩=some (.int .i64 y)∧w'.cell? ⟨gr,i,none⟩=some (.int .i64 mi)∧Chg [] wd1_wb w') wi2_wd1_wb:=⟨HI2_wd1_wb.out.c n01_wb,HI2_wd1_wb.out.c n11_wb,HI2_wd1_wb.out.c cm1_wb,HI2_wd1_wb.out⟩;refine hK.out _ _ (fun _=>hT2_wd1_wb) ?_;clear hK K hci2_wd1_wb;cases hq2_wd1_wb:decide (x∈N) with
      | true =>
       have HQ2_wd1_wb:=lh (of_decide_eq_true hq2_wd1_wb);clear hq2_wd1_wb
       try simp only[Act.put,Z1,Z2,Z3,Z4,Z5,Z6]
       repeat
        first
         | (refine along_off rfl (by rfl) (by rfl) (fun _ _ _ h=>h) hT2_wd1_wb ?_;simp only[Act.put,Z1,Z2,Z3,Z4,Z5,Z6])
         | (refine along_read (v:=?_) rfl (by rfl) (by rfl) (fun _ _ _ h=>h) hT2_wd1_wb (fun w' hS'=>?_) ?_;rotate_left;(focus ((try dsimp only at hS');go_simp;try with_reducible rfl));simp only[Act.put,Z1,Z2,Z3,Z4,Z5,Z6])
         | (refine along_skip rfl (by rfl) (by rfl) hT2_wd1_wb ?_;simp only[Act.put,Z1,Z2,Z3,Z4,Z5,Z6])
       clear hT2_wd1_wb;have P2_wd1_wb:Hid (y=mi→x=but∨x∈N):=lh (fun _=>Or.inr HQ2_wd1_wb.out);have row2_wd1_wb:=lh (row1_wb.out.chg HI2_wd1_wb.out (by simp));have hc2_wd1_wb:=lh (hc1_wb.out.t HI2_wd1_wb.out);have n02_wd1_wb:=HI2_wd1_wb.out.c n01_wb;have n12_wd1_wb:=HI2_wd1_wb.out.c n11_wb;have cm2_wd1_wb:=HI2_wd1_wb.out.c cm1_wb;have hnb2_wd1_wb:=lh (HI2_wd1_wb.out.heap hnb1_wb.out (by simp));clear n01_wb n11_wb cm1_wb hS2_wd1_wb;refine along_done ?_;go_wp2;have HN2_wd1_wb:=lh (Plain.SIn.next hin.out (by rw[HMI.out,HSEEN.out];exact⟨fun q=>(P1_wb.out q).imp id (fun q=>q),P2_wd1_wb.out⟩));go_wp2
       go_roundw
       case rel=>exact⟨_,k+1,by omega,by go_num,row2_wd1_wb.out,hc2_wd1_wb.out,HN2_wd1_wb⟩
       case measure=>simp[intOf];omega
      | false =>
       have HQ2_wd1_wb:=lh (of_decide_eq_false hq2_wd1_wb);clear hq2_wd1_wb
       try simp only[Act.put,Z1,Z2,Z3,Z4,Z5,Z6]
       repeat
        first
         | (refine along_off rfl (by rfl) (by rfl) (fun _ _ _ h=>h) hT2_wd1_wb ?_;simp only[Act.put,Z1,Z2,Z3,Z4,Z5,Z6])
         | (refine along_read (v:=?_) rfl (by rfl) (by rfl) (fun _ _ _ h=>h) hT2_wd1_wb (fun w' hS'=>?_) ?_;rotate_left;(focus ((try dsimp only at hS');go_simp;try with_reducible rfl));simp only[Act.put,Z1,Z2,Z3,Z4,Z5,Z6])
         | (refine along_skip rfl (by rfl) (by rfl) hT2_wd1_wb ?_;simp only[Act.put,Z1,Z2,Z3,Z4,Z5,Z6])
       clear hT2_wd1_wb;have nO2_wd1_wb:=HI2_wd1_wb.out.c n01_wb;have nOn2_wd1_wb:=fun o=>cellNew nO2_wd1_wb o;have HRI2_wd1_wb:=lh (row1_wb.out.chg HI2_wd1_wb.out (by simp));have HMN:=lh (hin.out.1.len);have hNV:=hin.out.1.len;refine along_done ?_
       go_wp2_with (at_builtin;refine wl_app_read rfl _ _ rfl (B:=B) rfl rfl (HRI2_wd1_wb.out.chg ((Chg.refl [] _).alloc (.cells #[.int .i64 x] 3)) (by simp)) (lit_ints _ z1) (by have:=HI2_wd1_wb.out.size;have:=hc1_wb.out.size;have:=HB.out;simp;omega) (by simp;omega) ?_;intro va2_wd1_wb wa2_wd1_wb ra2_wd1_wb ca2_wd1_wb fa2_wd1_wb;obtain⟨mo2_wd1_wb,mc2_wd1_wb,e2_wd1_wb⟩:=ra2_wd1_wb.shape;subst e2_wd1_wb;have RA2_wd1_wb:=lh ra2_wd1_wb;have CA2_wd1_wb:=lh ca2_wd1_wb;clear ra2_wd1_wb ca2_wd1_wb fa2_wd1_wb)
       obtain⟨ga2_wd1_wb,hga2_wd1_wb,hgc2_wd1_wb⟩:=RA2_wd1_wb.out.some (by simp);subst hga2_wd1_wb;have FA2_wd1_wb:Hid (∀ j∈foot (.slice (some ⟨gr,0,none⟩) N.length nc),B≤j∧∃ cs r,(wi2_wd1_wb.alloc (.cells #[.int .i64 x] 3)).heap[j]?=some (.cells cs 3 r)):=by
        intro j hj;have hrow:=HRI2_wd1_wb.out.chg ((Chg.refl [] _).alloc (.cells #[.int .i64 x] 3)) (by simp);rw[hrow.foot] at hj;rcases hrow.1.2 with ⟨q,_⟩ | ⟨g5,c5,cur5,q,hb5,hh5,_⟩
        ·cases q
        rw[q] at hj;simp[Value.ownBlock] at hj;subst hj;exact⟨hb5,_,_,hh5⟩
       have hnbI2_wd1_wb:=((Chg.refl [] _).alloc (.cells #[.int .i64 x] 3)).heap (HI2_wd1_wb.out.heap hnb1_wb.out (by simp)) (by simp);have grn2_wd1_wb:gr≠nb:=by
        intro e;obtain⟨_,cs,r,hh⟩:=FA2_wd1_wb.out gr (by simp[foot,Value.ownBlock]);rw[e,hnbI2_wd1_wb] at hh;simp at hh
       have hBg2_wd1_wb:=(FA2_wd1_wb.out gr (by simp[foot,Value.ownBlock])).1;have CB2_wd1_wb:Chg [gr] (wi2_wd1_wb.alloc (.cells #[.int .i64 x] 3)) wa2_wd1_wb:=CA2_wd1_wb.out;have n02_wd1_wb:=CB2_wd1_wb.cell (cellNew (HI2_wd1_wb.out.c n01_wb) _) (by simpa using Ne.symm grn2_wd1_wb);have n12_wd1_wb:=CB2_wd1_wb.cell (cellNew (HI2_wd1_wb.out.c n11_wb) _) (by simpa using Ne.symm grn2_wd1_wb);have hnb2_wd1_wb:=lh (CB2_wd1_wb.heap hnbI2_wd1_wb (by simpa using Ne.symm grn2_wd1_wb));have hc2_wd1_wb:=lh (((hc1_wb.out.t HI2_wd1_wb.out).alloc (.cells #[.int .i64 x] 3)).trans CB2_wd1_wb (fun j hj=>Or.inr (by have:=HB.out;simp at hj;omega)));have hmi2_wd1_wb:Hid ((N++[x]).getD i 0=mi):=lh (by rw[Plain.getD_snoc hin.out.2.1];exact HMI.out);have cm2_wd1_wb:=hgc2_wd1_wb i (by have:=hin.out.2.1;simp;omega);rw[hmi2_wd1_wb.out] at cm2_wd1_wb;have hin2_wd1_wb:Hid (Plain.SIn g p but a (N++[x]) i k):=lh (Plain.SIn.add hin.out HQ2_wd1_wb.out HEV.out.1 (by rw[HMI.out,←PA2_wd1_wb.out];exact HNR.out.symm) PP2_wd1_wb.out);have P2_wd1_wb:Hid (y=mi→x=but∨x∈N++[x]):=lh (fun _=>Or.inr (by simp));have row2_wd1_wb:=lh RA2_wd1_wb.out;have HSUB2_wd1_wb:Hid (∀ q,q∈N→q∈N++[x]):=lh (fun q hq=>List.mem_append.2 (Or.inl hq));have hl2_wd1_wb:N.length+1=(N++[x]).length:=by simp
       have hiN2_wd1_wb:=hin2_wd1_wb.out.2.1;clear n01_wb n11_wb cm1_wb hnbI2_wd1_wb grn2_wd1_wb hBg2_wd1_wb CB2_wd1_wb CA2_wd1_wb FA2_wd1_wb RA2_wd1_wb hgc2_wd1_wb HMN hNV
       try rw[hl2_wd1_wb]
       clear hl2_wd1_wb;generalize N++[x]=N2_wd1_wb at *;have HN2_wd1_wb:=lh (Plain.SIn.next hin2_wd1_wb.out (by rw[hmi2_wd1_wb.out,HSEEN.out];exact⟨fun q=>(P1_wb.out q).imp id (fun q=>HSUB2_wd1_wb.out _ q),P2_wd1_wb.out⟩));go_wp2
       go_roundw
       case rel=>exact⟨_,k+1,by omega,by go_num,row2_wd1_wb.out,hc2_wd1_wb.out,HN2_wd1_wb⟩
       case measure=>simp[intOf];omega
     have b12_wd1_wb:(y==mi)=false:=by rw[beq_eq_false_iff_ne];exact e12_wd1_wb
     have PP2_wd1_wb:=lh e12_wd1_wb;clear e12_wd1_wb;have hS2_wd1_wb:(fun w':World=>w'.cell? ⟨nb,0,none⟩=some (.int .i64 x)∧w'.cell? ⟨nb,1,none⟩=some (.int .i64 y)∧w'.cell? ⟨gr,i,none⟩=some (.int .i64 mi)∧Chg [] wd1_wb w') wd1_wb.drew:=⟨n01_wb,n11_wb,cm1_wb,(Chg.refl [] _).drew⟩;refine wp_region_way (fun w':World=>w'.cell? ⟨nb,0,none⟩=some (.int .i64 x)∧w'.cell? ⟨nb,1,none⟩=some (.int .i64 y)∧w'.cell? ⟨gr,i,none⟩=some (.int .i64 mi)∧Chg [] wd1_wb w') [0,1,2,3,4,5,6,7,8,9,10,11,12,13,14,15,16,18,19] (Way.line [0,1,2,3,4,5,6,7,8,9,10,11,12,13,14,15,16,17,18,19] .done) (by kernel_rfl) (by kernel_rfl) ?_;simp only[Way.line]
     repeat
      first
       | (refine along_off rfl (by rfl) (by rfl) (fun _ _ _ h=>h) hS2_wd1_wb ?_;simp only[Act.put,Z1,Z2,Z3,Z4,Z5,Z6])
       | (refine along_read (v:=?_) rfl (by rfl) (by rfl) (fun _ _ _ h=>h) hS2_wd1_wb (fun w' hS'=>?_) ?_;rotate_left;(focus ((try dsimp only at hS');go_simp;try with_reducible rfl));simp only[Act.put,Z1,Z2,Z3,Z4,Z5,Z6])
       | (refine along_skip rfl (by rfl) (by rfl) hS2_wd1_wb ?_;simp only[Act.put,Z1,Z2,Z3,Z4,Z5,Z6])
     generalize hwd2_wd1_wb:wd1_wb.drew=wd2_wd1_wb at *;have hcd2_wd1_wb:=lh (show Chg [] wd1_wb wd2_wd1_wb by rw[←hwd2_wd1_wb];exact (Chg.refl [] _).drew);clear hwd2_wd1_wb;have P2_wd1_wb:Hid (y=mi→x=but∨x∈N):=lh (fun e=>absurd e PP2_wd1_wb.out);have row2_wd1_wb:=lh (row1_wb.out.chg hcd2_wd1_wb.out (by simp));have hc2_wd1_wb:=lh (hc1_wb.out.t hcd2_wd1_wb.out);have n02_wd1_wb:=hcd2_wd1_wb.out.c n01_wb;have n12_wd1_wb:=hcd2_wd1_wb.out.c n11_wb;have cm2_wd1_wb:=hcd2_wd1_wb.out.c cm1_wb;have hnb2_wd1_wb:=lh (hcd2_wd1_wb.out.heap hnb1_wb.out (by simp));clear n01_wb n11_wb cm1_wb hS2_wd1_wb;refine along_done ?_;go_wp2;have HN2_wd1_wb:=lh (Plain.SIn.next hin.out (by rw[HMI.out,HSEEN.out];exact⟨fun q=>(P1_wb.out q).imp id (fun q=>q),P2_wd1_wb.out⟩));go_wp2
     go_roundw
     case rel=>exact⟨_,k+1,by omega,by go_num,row2_wd1_wb.out,hc2_wd1_wb.out,HN2_wd1_wb⟩
     case measure=>simp[intOf];omega
    have e:k=p.e.length:=by omega
    subst e;have HOUT:=lh hin.out.outer;have HNL:=lh hNL;clear hin hrow;go_wp2
    go_roundw
    case rel=>exact⟨N,i+1,by go_num,HROW2.out,HCC.out,HOUT⟩
    case measure=>simp[intOf];omega
  have e:i=M.length:=by omega
  subst e;have HALL:=lh (fun u=>hso.out.all u);have HND:=lh hso.out.1.nodup;clear hso;go_wp2;go_ret;exact⟨_,M,rfl,HROW.out.base (by have:=HB.out;have:=HC1.out.size;omega),HALL.out,HND.out,HC1.out.t HC.out⟩
end Go.Proofs.YtmhcmnaecpagiaaGreat
