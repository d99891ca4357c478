/- draw's sketch in memory: rows of bools, faces, scraps; border: contract. Conditions: what each theorem says. -/
import Derived.Test.YtbkjljffnkdcjaaS9BlkP
namespace Go.Proofs.Ytbkjljffnkdcjaa
open Go.RowKit Go.Maps
def bls (n:Nat) (f:Int→Bool):List Value:=(List.range n).map fun i:Nat=>.bool (f i)
def BitsAt (w:World) (B b n:Nat) (f:Int→Bool):Prop:=w.ownsRow B 4 1 (.slice (some ⟨b,0,none⟩) n n) n (bls n f)
theorem elemBool:Elem 28 4 (.bool false) 1 1:=⟨Try.underlying28,by kernel_rfl,rfl,by decide,by decide⟩
section
variable {w w' : World} {B b n : Nat} {f : Int → Bool}
theorem BitsAt.chg {own:List Nat} (h:BitsAt w B b n f) (hc:Chg own w w') (hb:b ∉ own):BitsAt w' B b n f:=owns_chg h hc (fun j hj=>by
 have e:b=j:=by simpa[Value.ownBlock] using hj
 rw[←e];exact hb)
theorem BitsAt.base {B':Nat} (h:BitsAt w B' b n f) (hB:B≤B'):BitsAt w B b n f:=owns_base h hB
theorem BitsAt.lt (h:BitsAt w B b n f):B≤b∧b<w.heap.size:=World.ownsRow.lt h b rfl
theorem BitsAt.kind (h:BitsAt w B b n f):∃ cs,w.heap[b]?=some (.cells cs 4 (0,0)):=by
 rcases h.2 with ⟨e,-⟩ | ⟨g',cap,cur,e,-,hh,-⟩
 ·cases e
 simp only[Value.slice.injEq,Option.some.injEq,Addr.mk.injEq,and_true] at e
 obtain⟨rfl,-⟩:=e
 exact⟨cur,hh⟩
theorem BitsAt.cell (h:BitsAt w B b n f) {v:Nat} (hv:v<n):w.cell? ⟨b,v,none⟩=some (.bool (f v)):=by
 have:=World.ownsRow.cells h (g:=b) rfl v (.bool (f v)) (by simp[bls,hv])
 have hadd:(⟨b,0,none⟩:Addr).add v=⟨b,v,none⟩:=by unfold Addr.add;split <;> simp_all
 rwa[hadd] at this
theorem BitsAt.free (h:BitsAt w B b n f) (i:Nat):w.frozen? ⟨b,i,none⟩=false:=by
 obtain⟨cs,hh⟩:=h.kind
 simp[World.frozen?,hh]
theorem BitsAt.set (h:BitsAt w B b n f) {v:Nat} (x:Bool):BitsAt (w.setCell ⟨b,v,none⟩ (.bool x)) B b n (fun u=>if u=(v:Int) then x else f u):=by
 have hs:=World.ownsRow.stored h v (.bool x)
 unfold BitsAt
 have e:(bls n f).set v (.bool x)=bls n (fun u=>if u=(v:Int) then x else f u):=by
  refine List.ext_getElem (by simp[bls]) fun i h1 h2=>?_
  rw[List.getElem_set]
  simp only[bls,List.getElem_map,List.getElem_range]
  by_cases q:v=i
  ·subst q;simp
  rw[if_neg q,if_neg (by omega)]
 rw[e] at hs
 exact hs.1
theorem bits_made {fb:Nat} (h:w.ownsRow B 4 1 (.slice (some ⟨fb,0,none⟩) n n) n (madeCells (Value.bool false).cells (n*1)).toList):BitsAt w B fb n (fun _=>false):=by
 have e1:(madeCells (Value.bool false).cells (n*1)).toList=bls n (fun _=>false):=by
  show (madeCells #[Value.bool false] (n*1)).toList=_
  rw[Nat.mul_one,toList_madeCells_one]
  unfold bls
  rw[List.map_const',List.length_range]
 rw[e1] at h
 exact h
end
theorem bits_same {w:World} {B b n:Nat} {f f':Int→Bool} (h:BitsAt w B b n f) (he:∀ i:Nat,i<n→f i=f' i):BitsAt w B b n f':=by
 unfold BitsAt at h ⊢
 have e:bls n f=bls n f':=List.map_congr_left fun i hi=>by rw[he i (List.mem_range.1 hi)]
 rwa[e] at h
theorem wl_mk {t e:TypeId} {z:Value} {size bytes:Nat} (E:Elem t e z size bytes) {ops:Array Oper} {rest:List Oper} {o:Oper} {a:Act} {Q:Exit→Act→World→Prop} {w:World} (hg:o.guard=none) (l c:Operand) (hop:o.op=Op.makeSlice t l c) {B n:Nat} (hl:a.eval l=.int .i64 n) (hc:a.eval c=.int .i64 n) (hB:B≤w.heap.size) (hn:n<68719476736)
  (hK:∀ w',w'.ownsRow B e size (.slice (some ⟨w.heap.size,0,none⟩) n n) n (madeCells z.cells (n*size)).toList→Chg [] w w'→wpList Try.prog ops Q rest (a.put o.dst (.slice (some ⟨w.heap.size,0,none⟩) n n)) w'):wpList Try.prog ops Q (o :: rest) a w :=
 wpList_plain hg fun _ hK'=>op_make E l c hop hl hc hB hn fun w' h1 h2=>hK' _ _ (hK w' h1 h2)
structure GrIn (w:World) (sb:Nat) (g:Plain.Gr) (vE:Value) (N:Nat):Prop where
 c0:w.cell? ⟨sb,0,none⟩=some (.int .i64 g.n)
 c1:w.cell? ⟨sb,1,none⟩=some vE
 gr:GrAt w (.agg #[.int .i64 g.n,vE]) g
 n:g.n=N
 err:g.err=0
theorem GrIn.fresh {w w':World} {sb:Nat} {g:Plain.Gr} {vE:Value} {N:Nat} (h:GrIn w sb g vE N) (hc:Chg [] w w'):GrIn w' sb g vE N :=
 ⟨hc.cell h.c0 (by simp),hc.cell h.c1 (by simp),h.gr.fresh hc,h.n,h.err⟩
theorem GrIn.small {w:World} {sb:Nat} {g:Plain.Gr} {vE:Value} {N:Nat} (h:GrIn w sb g vE N):N≤1024∧g.e.length≤1024:=by
 obtain⟨h1,h2,h3,-⟩:=Plain.Gr.err_ok h.err
 have:=h.n
 omega
theorem GrIn.dart {w:World} {sb:Nat} {g:Plain.Gr} {vE:Value} {N:Nat} (h:GrIn w sb g vE N) {d:Int} (h0:0≤d) (hd:d / 2<g.e.length):∃ n v:Nat,d=n∧n / 2<g.e.length∧g.tail d=v∧v<N∧n<4096:=by
 obtain⟨h1,h2,h3,h4⟩:=Plain.Gr.err_ok h.err
 have hn:=h.n
 obtain⟨m,rfl⟩:∃ m:Nat,d=m:=⟨d.toNat,by omega⟩
 have hm:m / 2<g.e.length:=by omega
 have he:=h4 _ hm
 have ht:g.tail (m:Int)=(g.ends (m / 2)).1∨g.tail (m:Int)=(g.ends (m / 2)).2:=by
  unfold Plain.Gr.tail Plain.Gr.at
  have:((m:Int) / 2).toNat=m / 2:=by omega
  rw[this]
  split
  ·exact Or.inl rfl
  exact Or.inr rfl
 refine⟨m,(g.tail (m:Int)).toNat,rfl,hm,?_,?_,by omega⟩
 ·rcases ht with q | q <;> rw[q] <;> omega
 rcases ht with q | q <;> rw[q] <;> omega
namespace Plain
theorem hasV_take {g:Gr} {l:List Int} {k:Nat} (hk:k<l.length) (v:Int):hasV g (l.take (k+1)) v=if v=g.tail (l.getD k 0) then true else hasV g (l.take k) v:=by
 unfold hasV
 have e:l.getD k 0=l[k]:=by simp[List.getD,hk]
 rw[List.take_succ_eq_append_getElem hk,List.any_append,e]
 by_cases q:v=g.tail l[k]
 ·rw[if_pos q,q];simp
 rw[if_neg q]
 have q2:decide (g.tail l[k]=v)=false:=decide_eq_false fun r=>q r.symm
 simp only[List.any_cons,List.any_nil,q2,Bool.or_false]
end Plain
set_option maxRecDepth 100000 in
set_option maxHeartbeats 2000000 in
theorem border_any (sb N:Nat) (vE vl:Value) (g:Plain.Gr) (l:List Int) (w:World) (hG:GrIn w sb g vE N) (hl:l.length≤1000000) (hd:∀ d∈l,0≤d∧d / 2<g.e.length) (h:IntsAt w vl l) :
  Calls Try.prog 29 #[.pointer (some ⟨sb,0,none⟩),vl] w fun e w'=>∃ hb,e=.returned (.agg #[vl,.slice (some ⟨hb,0,none⟩) N N])∧BitsAt w' w.heap.size hb N (Plain.hasV g l)∧Chg [] w w':=by
 have HG:=lh hG
 have HI:=lh h
 have HD:=lh hd
 obtain⟨hsN,hsE⟩:=hG.small
 have HGN:=lh hG.n
 obtain⟨lo,lc,rfl,-,hm,-⟩:=h
 have HN:=lh (show g.n=N from hG.n)
 have HXC:=lh (show Chg [] w (w.alloc (.cells #[.slice none 0 0,.slice none 0 0] 68)) from (show Chg [] w (w.alloc (.cells #[.slice none 0 0,.slice none 0 0] 68)) from ((Chg.refl [] w).alloc _)))
 have qbx0:=heap_alloc_new w (.cells #[.slice none 0 0,.slice none 0 0] 68)
 have HX:=lh (fun (w2:World) (hbx:Chg [] (w.alloc (.cells #[.slice none 0 0,.slice none 0 0] 68)) w2)=>(⟨hbx.heap qbx0 (by simp),by have hz:=hbx.size;simpa using hz⟩:w2.heap[w.heap.size]?=some (.cells #[.slice none 0 0,.slice none 0 0] 68 (0,0))∧w.heap.size+1≤w2.heap.size))
 clear qbx0
 have HXZ:=lh (show (w.alloc (.cells #[.slice none 0 0,.slice none 0 0] 68)).heap.size=w.heap.size+1 by simp)
 have q0:=HXC.out.cell hG.c0 (by simp)
 clear hd hG
 go_enter Try.func29,Try.ntmps29
 go_wp2_with (at_make;refine wl_mk elemBool rfl _ _ rfl (B:=w.heap.size) (n:=N) (by show Value.int .i64 g.n=_;rw[HN.out]) (by show Value.int .i64 g.n=_;rw[HN.out]) HXC.out.size (by omega) ?_;intro w2 h2 c2;have H2:=lh (bits_made h2);have C2:=lh c2;clear h2 c2)
 have hz1:(w.alloc (.cells #[.slice none 0 0,.slice none 0 0] 68)).heap.size=w.heap.size+1:=by simp
 rw[hz1] at H2
 obtain⟨hb,hhb⟩:∃ hb,w.heap.size+1=hb:=⟨_,rfl⟩
 have HHB:=lh hhb.symm
 rw[hhb] at H2 ⊢
 clear hz1 hhb
 have HC2:=lh (HXC.out.trans C2.out (by simp))
 have HX4:=lh (show ∀ wx,Chg [hb] w2 wx→wx.heap[w.heap.size]?=some (.cells #[.slice none 0 0,.slice none 0 0] 68 (0,0)) from fun wx hx=>by
  obtain⟨r4,-⟩:=HX.out w2 C2.out
  exact hx.heap r4 (by rw[List.mem_singleton];have:=HHB.out;omega))
 clear q0 C2
 go_loopw [7,16] (fun _ c wr=>∃ k:Nat,k≤l.length∧c=.int .i64 k∧BitsAt wr w.heap.size hb N (Plain.hasV g (l.take k))∧Chg [hb] w2 wr) (fun _ c _=>l.length - (intOf c).toNat)
 case atStart=>exact⟨0,Nat.zero_le _,rfl,bits_same H2.out (fun _ _=>rfl),Chg.refl _ _⟩
 case round =>
  obtain⟨k,hk,rfl,hbits,hc⟩:=hrel
  have HB:=lh hbits
  have HC:=lh (show Chg [] w wr from HC2.out.trans hc (fun j hj=>Or.inr (by rw[List.mem_singleton] at hj;have:=HHB.out;omega)))
  have HCB:=lh hc
  have HGR:=lh (HG.out.fresh HC.out)
  clear hbits hc
  by_cases hlt:k<l.length
  ·obtain⟨rb,roff,rfl,rc⟩:=IntsAt.cellAt HI.out hlt
   have rcell:=HC.out.cell rc (by simp)
   have hdb:=HD.out _ (Plain.getD_mem hlt)
   have HT:=lh (Plain.hasV_take (g:=g) hlt)
   obtain⟨n,v,hn,hn2,hv,hvN,hn4⟩:=HG.out.dart hdb.1 hdb.2
   rw[hn] at rcell HT
   rw[hn] at hv
   rw[hv] at HT
   have HTV:=lh hv
   have q0:=HGR.out.c0
   have q1:=HGR.out.c1
   have bf:=HB.out.free v
   have bc:=HB.out.cell hvN
   have hvi:(v:Int)<(N:Int):=by omega
   clear rc hdb hn hv
   go_wp2_with fail
   refine (dleaves_any _ g n wr hn2 (by omega) HGR.out.gr).mono ?_
   rintro _ w3 ⟨rfl,hc3⟩
   rw[HTV.out]
   have bf3:=hc3.frozen bc bf (by simp)
   have bc3:=hc3.cell bc (by simp)
   have HB3:=lh (HB.out.chg hc3 (by simp))
   have HC3:=lh (HCB.out.trans hc3 (by simp))
   clear hc3 bf bc q0 q1 rcell
   go_wp2
   go_roundw
   case rel =>
    refine⟨k+1,by omega,by go_num,?_,HC3.out.trans ((Chg.refl [hb] w3).setCell (Or.inl (by simp)) _) (fun j hj=>Or.inl hj)⟩
    have h1:=HB3.out.set (v:=v) true
    have e:(fun u=>if u=(v:Int) then true else Plain.hasV g (l.take k) u)=Plain.hasV g (l.take (k+1)):=funext fun u=>(HT.out u).symm
    rw[e] at h1
    exact h1
   case measure=>simp[intOf];omega
  have e:k=l.length:=by omega
  subst e
  rw[List.take_length] at HB
  have r4:=HX4.out wr HCB.out
  have r0:=(cell_of_row _ _ 0 _ _ _ r4).trans (show _=some (Value.slice none 0 0) from rfl)
  have r1:=(cell_of_row _ _ 1 _ _ _ r4).trans (show _=some (Value.slice none 0 0) from rfl)
  have f0:=free_at r4 0
  have f1:=free_at r4 1
  have hset:Chg [w.heap.size] wr ((wr.setCell ⟨w.heap.size,0,none⟩ (.slice lo l.length lc)).setCell ⟨w.heap.size,1,none⟩ (.slice (some ⟨hb,0,none⟩) N N)):=((Chg.refl _ wr).setCell (Or.inl (by simp)) _).setCell (Or.inl (by simp)) _
  have hheap:=heap_setCell_same (heap_setCell_same r4 0 (.slice lo l.length lc)) 1 (.slice (some ⟨hb,0,none⟩) N N)
  have HQ0:=lh ((cell_of_row _ _ 0 _ _ _ hheap).trans (show _=some (Value.slice lo l.length lc) from rfl))
  have HQ1:=lh ((cell_of_row _ _ 1 _ _ _ hheap).trans (show _=some (Value.slice (some ⟨hb,0,none⟩) N N) from rfl))
  have HBF:=lh (HB.out.chg hset (by rw[List.mem_singleton];have:=HHB.out;omega))
  have HCF:=lh (HC.out.trans hset (fun j hj=>Or.inr (by rw[List.mem_singleton] at hj;omega)))
  clear r4 hset hheap hlt hk
  go_wp2
  refine bodyPost_ret (v:=.agg #[.slice lo l.length lc,.slice (some ⟨hb,0,none⟩) N N]) (by have h0:=HQ0.out;have h1:=HQ1.out;simp[results,Try.results29,go_sem,h0,h1]) rfl ?_
  exact⟨hb,rfl,HBF.out,HCF.out⟩
namespace Plain
def endsF (g:Gr) (on:Int→Bool) (E:List Int):List Int:=E.flatMap fun e=>[(g.at e).1,(g.at e).2].filter on
theorem endsF_snoc {g:Gr} {on:Int→Bool} {l:List Int} {k:Nat} (hk:k<l.length):endsF g on (l.take (k+1))=endsF g on (l.take k)++[(g.at (l.getD k 0)).1,(g.at (l.getD k 0)).2].filter on:=by
 unfold endsF
 rw[List.take_succ_eq_append_getElem hk,List.flatMap_append]
 simp[List.getD,hk]
theorem endsF_len (g:Gr) (on:Int→Bool):∀ l:List Int,(endsF g on l).length≤2*l.length
 | []=>Nat.le_refl _
 | e :: l=>by
  have ih:=endsF_len g on l
  unfold endsF at ih ⊢
  rw[List.flatMap_cons,List.length_append]
  have:=List.length_filter_le on [(g.at e).1,(g.at e).2]
  simp only[List.length_cons,List.length_nil] at this ⊢
  omega
end Plain
set_option maxRecDepth 100000 in
set_option maxHeartbeats 4000000 in
theorem ends_any (sb ob N B:Nat) (vE vl:Value) (g:Plain.Gr) (on:Int→Bool) (E:List Int) (w:World) (hG:GrIn w sb g vE N) (hq:w.cell? ⟨sb,2,none⟩=some (.slice (some ⟨ob,0,none⟩) N N)) (hon:BitsAt w B ob N on) (hl:E.length≤100000) (hd:∀ e∈E,0≤e∧e<g.e.length) (h:IntsAt w vl E) :
  Calls Try.prog 55 #[.pointer (some ⟨sb,0,none⟩),vl] w fun e w'=>∃ v',e=.returned v'∧RowAt w' w.heap.size v' (Plain.endsOf g on E)∧Chg [] w w':=by
 have HG:=lh hG
 have HI:=lh h
 have HD:=lh hd
 have HON:=lh hon
 have HQ:=lh hq
 have HSM:=lh hG.small
 have HGN:=lh hG.n
 have HGE:=lh (Plain.Gr.err_ok hG.err)
 obtain⟨eo,cap,eqE,-,-,hsm,hcell⟩:=hG.gr
 have HCE:=lh hcell
 have HGS:=lh hsm
 simp only[Value.agg.injEq,Array.mk.injEq,List.cons.injEq,true_and,and_true] at eqE
 subst eqE
 obtain⟨lo,lc,rfl,-,hm,-⟩:=h
 clear hd hG hcell hsm hon hq
 go_enter Try.func55,Try.ntmps55
 go_wp2_with fail
 go_loopw [5,7,9,12] (fun c5 _ _ c wr=>∃ k:Nat,k≤E.length∧c=.int .i64 k∧RowAt wr w.heap.size c5 (Plain.endsF g on (E.take k))∧Chg [] w wr) (fun _ _ _ c _=>E.length - (intOf c).toNat)
 case atStart=>exact⟨0,Nat.zero_le _,rfl,rowNil' _ _,Chg.refl _ _⟩
 case round =>
  obtain⟨k,hk,rfl,hrow,hc⟩:=hrel
  have HROW:=lh hrow
  have HC:=lh hc
  obtain⟨oo,oc,rfl⟩:=hrow.shape
  have HLN:=lh (show (Plain.endsF g on (E.take k)).length≤200000 by have:=Plain.endsF_len g on (E.take k);rw[List.length_take] at this;omega)
  clear hrow hc
  by_cases hlt:k<E.length
  ·obtain⟨rb,roff,rfl,rc⟩:=IntsAt.cellAt HI.out hlt
   have rcell:=HC.out.cell rc (by simp)
   have hdb:=HD.out _ (Plain.getD_mem hlt)
   have HES:=lh (Plain.endsF_snoc (g:=g) (on:=on) hlt)
   obtain⟨en,hen⟩:∃ en:Nat,E.getD k 0=en:=⟨(E.getD k 0).toNat,by omega⟩
   rw[hen] at rcell hdb HES
   have hel:en<g.e.length:=by omega
   have hei:en<2000:=by have:=HSM.out;omega
   obtain⟨eb,eoff,rfl,hc0,hc1⟩:=HCE.out en hel
   obtain⟨z1,z2⟩:=HGS.out en hel
   have hr:=HGE.out.2.2.2 en hel
   have c0:=HC.out.cell hc0 (by simp)
   have c1:=HC.out.cell hc1 (by simp)
   have q1:=HC.out.cell HG.out.c1 (by simp)
   have hat:g.at (en:Int)=g.ends en:=by unfold Plain.Gr.at;rw[Int.toNat_natCast]
   rw[hat] at HES
   obtain⟨x,hx⟩:∃ x:Nat,(g.ends en).1=x:=⟨(g.ends en).1.toNat,by omega⟩
   obtain⟨y,hy⟩:∃ y:Nat,(g.ends en).2=y:=⟨(g.ends en).2.toNat,by omega⟩
   rw[hx] at c0 z1 HES
   rw[hy] at c1 z2 HES
   have HXN:=lh (show x<N by rw[HGN.out,hx] at hr;omega)
   have HYN:=lh (show y<N by rw[HGN.out,hy] at hr;omega)
   obtain⟨M,hM⟩:∃ M,Plain.endsF g on (E.take k)=M:=⟨_,rfl⟩
   rw[hM] at HROW HES HLN ⊢
   clear rc hdb hen hc0 hc1 hr hat hx hy hM
   go_wp2_with fail
   have hS0:Chg [] wr wr.drew:=(Chg.refl [] wr).drew
   refine wp_region_way (Chg [] wr) [0,1,2,3,4,5,6,7,8,9,10,11,12,13,14,15,16,17,19,20] (Way.line [0,1,2,3,4,5,6,7,8,9,10,11,12,13,14,15,16,17,20,18,19] .done) (by kernel_rfl) (by kernel_rfl) ?_
   simp only[Way.line]
   repeat
    first
     | (refine along_off rfl (by rfl) (by rfl) (fun _ _ _ h=>h) hS0 ?_;simp only[Act.put,Z1,Z2,Z3,Z4,Z5,Z6])
     | (refine along_read (v:=?_) rfl (by rfl) (by rfl) (fun _ _ _ h=>h) hS0 (fun w' hS'=>?_) ?_;rotate_left;(focus (have rd0:=hS'.cell q1 (by simp);have rd1:=hS'.cell c0 (by simp);have rd2:=hS'.cell c1 (by simp);clear hS';go_simp;try with_reducible rfl));simp only[Act.put,Z1,Z2,Z3,Z4,Z5,Z6])
     | (refine along_skip rfl (by rfl) (by rfl) hS0 ?_;simp only[Act.put,Z1,Z2,Z3,Z4,Z5,Z6])
   refine along_op rfl (by rfl) (by rfl) (fun K hK=>?_)
   go_simp
   have hS1:=hS0.alloc (.cells #[.int .i64 (x:Int),.int .i64 (y:Int)] 3)
   refine hK.out _ _ (fun _=>hS1) ?_
   clear hK K
   try simp only[Act.put,Z1,Z2,Z3,Z4,Z5,Z6]
   repeat
    first
     | (refine along_off rfl (by rfl) (by rfl) (fun _ _ _ h=>h) hS1 ?_;simp only[Act.put,Z1,Z2,Z3,Z4,Z5,Z6])
     | (refine along_read (v:=?_) rfl (by rfl) (by rfl) (fun _ _ _ h=>h) hS1 (fun w' hS'=>?_) ?_;rotate_left;(focus (skip;clear hS';go_simp;try with_reducible rfl));simp only[Act.put,Z1,Z2,Z3,Z4,Z5,Z6])
     | (refine along_skip rfl (by rfl) (by rfl) hS1 ?_;simp only[Act.put,Z1,Z2,Z3,Z4,Z5,Z6])
   refine along_done ?_
   have HBX:=lh (show (wr.alloc (.cells #[.int .i64 (x:Int),.int .i64 (y:Int)] 3)).drew.heap[wr.heap.size]?=some (.cells #[.int .i64 (x:Int),.int .i64 (y:Int)] 3 (0,0)) from heap_alloc_new wr _)
   have HC2:=lh (show Chg [] wr (wr.alloc (.cells #[.int .i64 (x:Int),.int .i64 (y:Int)] 3)).drew from ((Chg.refl [] wr).alloc _).drew)
   have HRW:=lh (HROW.out.chg HC2.out (by simp))
   have HPF:=lh (show wr.heap.size ∉ foot (.slice oo M.length oc) from fun q=>by
    rw[HROW.out.foot] at q
    have:=(HROW.out.low _ q).2
    omega)
   clear hS0 hS1 q1 c0 c1 rcell HROW
   generalize (wr.alloc (.cells #[.int .i64 (x:Int),.int .i64 (y:Int)] 3)).drew=wd at *
   obtain⟨pb,hpb⟩:∃ pb,wr.heap.size=pb:=⟨_,rfl⟩
   have HPB:=lh hpb
   rw[hpb] at HBX HPF ⊢
   have HC3:=lh (HC.out.trans HC2.out (by simp))
   have HWP:=lh (show w.heap.size≤pb by rw[←hpb];exact HC.out.size)
   clear hpb
   have HZ:=lh (show ∀ j:Nat,j<2→∃ z:Nat,z<N∧(∀ wx:World,wx.heap[pb]?=some (.cells #[.int .i64 (x:Int),.int .i64 (y:Int)] 3 (0,0))→wx.cell? ⟨pb,j,none⟩=some (.int .i64 (z:Int)))∧I64 (z:Int)∧([(x:Int),(y:Int)].take (j+1)).filter on=([(x:Int),(y:Int)].take j).filter on++(if on (z:Int)=true then [(z:Int)] else []) from fun j hj=>by
    rcases (show j=0∨j=1 by omega) with rfl | rfl
    ·refine⟨x,HXN.out,fun wx hx=>(cell_of_row _ _ 0 _ _ _ hx).trans rfl,z1,?_⟩
     cases h1:on (x:Int) <;> simp[h1]
    refine⟨y,HYN.out,fun wx hx=>(cell_of_row _ _ 1 _ _ _ hx).trans rfl,z2,?_⟩
    cases h1:on (x:Int) <;> cases h2:on (y:Int) <;> simp[h1,h2])
   rename World=>wo
   go_wp2_with fail
   go_loopw [5,9,36] (fun c5 _ c wr=>∃ j:Nat,j≤2∧c=.int .i64 j∧wr.heap[pb]?=some (.cells #[.int .i64 (x:Int),.int .i64 (y:Int)] 3 (0,0))∧RowAt wr w.heap.size c5 (M++([(x:Int),(y:Int)].take j).filter on)∧pb ∉ foot c5∧Chg [] w wr) (fun _ _ c _=>2 - (intOf c).toNat)
   case atStart=>exact⟨0,Nat.zero_le _,rfl,HBX.out,by simpa using HRW.out,HPF.out,HC3.out⟩
   case round =>
    obtain⟨j,hj,rfl,hbx,hrow,hpf,hcr⟩:=hrel
    have HB2:=lh hbx
    have HROW:=lh hrow
    have HPF2:=lh hpf
    have HCR:=lh hcr
    obtain⟨oo2,oc2,rfl⟩:=hrow.shape
    have HML:=lh (show (M++([(x:Int),(y:Int)].take j).filter on).length≤200002 by
     rw[List.length_append]
     have h1:=List.length_filter_le on ([(x:Int),(y:Int)].take j)
     rw[List.length_take] at h1
     simp only[List.length_cons,List.length_nil] at h1
     have:=HLN.out
     omega)
    clear hbx hrow hpf hcr
    by_cases hj2:j<2
    ·obtain⟨z,hzN,hzc,hz64,hzf⟩:=HZ.out j hj2
     have pz:=hzc _ HB2.out
     have s2:=HCR.out.cell HQ.out (by simp)
     have bz:=((HON.out.base (Nat.zero_le _)).chg HCR.out (by simp)).cell hzN
     have HZF:=lh hzf
     have hji:(j:Int)<2:=by omega
     have hzi:(z:Int)<(N:Int):=by omega
     obtain⟨P,hP⟩:∃ P,M++([(x:Int),(y:Int)].take j).filter on=P:=⟨_,rfl⟩
     rw[hP] at HROW HML HPF2 ⊢
     have HP:=lh hP
     have hml:P.length<4294967290:=by have:=HML.out;omega
     have HBW:=lh HCR.out.size
     clear hzc hzf hP
     cases hb:on (z:Int) with
     | true =>
      rw[hb] at bz
      have HK:=lh (show M++([(x:Int),(y:Int)].take (j+1)).filter on=P++[(z:Int)] by rw[HZF.out,←HP.out,hb,if_pos rfl,List.append_assoc])
      clear hb
      go_wp2_with (at_builtin;refine wl_push rfl _ _ rfl (B:=w.heap.size) (v:=.slice oo2 _ oc2) rfl rfl HROW.out hz64 HBW.out hml rfl ?_;intro v6 w6 r6 c6 f6;have R6:=lh r6;have C6:=lh c6;have F6:=lh f6;clear r6 c6 f6)
      go_roundw
      case rel =>
       refine⟨j+1,by omega,by go_num,C6.out.heap HB2.out HPF2.out,by rw[HK.out];exact R6.out,fun q=>?_,HCR.out.trans C6.out (fun b hb=>Or.inr (HROW.out.low b (by rw[←HROW.out.foot];exact hb)).1)⟩
       rcases F6.out pb q with r | r
       ·exact HPF2.out r
       have:=lt_of_block HB2.out
       omega
      case measure=>simp[intOf];omega
     | false =>
      rw[hb] at bz
      have HK:=lh (show M++([(x:Int),(y:Int)].take (j+1)).filter on=P by rw[HZF.out,←HP.out,hb,if_neg (by simp),List.append_nil])
      clear hb
      go_wp2
      go_roundw
      case rel=>exact⟨j+1,by omega,by go_num,HB2.out,by rw[HK.out];exact HROW.out,HPF2.out,HCR.out⟩
      case measure=>simp[intOf];omega
    have e2:j=2:=by omega
    subst e2
    have HK:=lh (show Plain.endsF g on (E.take (k+1))=M++([(x:Int),(y:Int)].take 2).filter on from HES.out)
    have hkk:k<E.length:=hlt
    obtain⟨P,hP⟩:∃ P,M++([(x:Int),(y:Int)].take 2).filter on=P:=⟨_,rfl⟩
    rw[hP] at HROW HK ⊢
    clear hj hj2 hP
    go_wp2
    go_roundw
    case rel=>exact⟨k+1,by omega,by go_num,by rw[HK.out];exact HROW.out,HCR.out⟩
    case measure=>simp[intOf];omega
  have e:k=E.length:=by omega
  subst e
  rw[List.take_length] at HROW HLN ⊢
  clear hk hlt
  obtain⟨M,hM⟩:∃ M,Plain.endsF g on E=M:=⟨_,rfl⟩
  have HM:=lh (show Plain.endsOf g on E=Plain.tidy M by rw[←hM];rfl)
  rw[hM] at HROW HLN ⊢
  clear hM
  go_wp2_with fail
  refine (sortI_any _ M _ _ (by have:=HLN.out;omega) HROW.out).mono ?_
  rintro _ w5 ⟨rfl,hr5,hc5⟩
  have HF5:=lh (show Chg [] w w5 from HC.out.trans hc5 (fun b hb=>Or.inr (HROW.out.low b hb).1))
  have hsl:(M.mergeSort fun x y=>decide (x≤y)).length=M.length:=(List.mergeSort_perm _ _).length_eq
  have HTY:=lh (show Go.Lib.compact (M.mergeSort fun x y=>decide (x≤y))=Plain.tidy M from rfl)
  obtain⟨S,hS⟩:∃ S,(M.mergeSort fun x y=>decide (x≤y))=S:=⟨_,rfl⟩
  rw[hS] at hsl hr5 HTY
  have HR5:=lh hr5
  have HSL:=lh hsl
  clear hr5 hc5 hsl hS
  go_wp2_with fail
  refine (compactI_any _ S _ _ (by rw[HSL.out];have:=HLN.out;omega) HR5.out).mono ?_
  rintro _ w6 ⟨v6,rfl,hr6,hc6⟩
  rw[HTY.out] at hr6
  have HR6:=lh hr6
  have HF6:=lh (show Chg [] w w6 from HF5.out.trans hc6 (fun b hb=>Or.inr (HR5.out.low b hb).1))
  clear hr6 hc6
  go_wp2
  go_ret
  exact⟨_,rfl,by rw[HM.out];exact HR6.out,HF6.out⟩
structure FacesAt (g:Plain.Gr) (w:World) (B N:Nat) (fv:Value) (xs:List Value) (F:List (List Int)):Prop where
 out:w.ownsRow B 68 2 fv F.length xs
 len:xs.length=2*F.length
 row:∀ i,i<F.length→RowAt w B (xs.getD (2*i) undef) (F.getD i [])
 has:∀ i,i<F.length→∃ b,xs.getD (2*i+1) undef=.slice (some ⟨b,0,none⟩) N N∧BitsAt w B b N (Plain.hasV g (F.getD i []))
theorem FacesAt.chg {g:Plain.Gr} {w w':World} {B N:Nat} {fv:Value} {xs:List Value} {F:List (List Int)} {own:List Nat} (h:FacesAt g w B N fv xs F) (hc:Chg own w w') (h1:∀ b,fv.ownBlock=some b→b ∉ own) (h2:∀ k b,k<xs.length→(xs.getD k undef).ownBlock=some b→b ∉ own):FacesAt g w' B N fv xs F:=by
 have hl:=h.len
 refine⟨owns_chg h.out hc h1,h.len,fun i hi=>(h.row i hi).chg hc (fun b hb=>h2 (2*i) b (by omega) (by simpa using hb)),fun i hi=>?_⟩
 obtain⟨b,e,hb⟩:=h.has i hi
 exact⟨b,e,hb.chg hc (h2 (2*i+1) b (by omega) (by rw[e];rfl))⟩
theorem FacesAt.fresh {g:Plain.Gr} {w w':World} {B N:Nat} {fv:Value} {xs:List Value} {F:List (List Int)} (h:FacesAt g w B N fv xs F) (hc:Chg [] w w'):FacesAt g w' B N fv xs F:=h.chg hc (by simp) (by simp)
theorem FacesAt.cell {g:Plain.Gr} {w:World} {B N fb n c:Nat} {xs:List Value} {F:List (List Int)} (h:FacesAt g w B N (.slice (some ⟨fb,0,none⟩) n c) xs F) {k:Nat} (hk:k<xs.length):w.cell? ⟨fb,k,none⟩=some (xs.getD k undef):=by
 have:=World.ownsRow.cells h.out (g:=fb) rfl k (xs.getD k undef) (by simp[List.getD,hk])
 have hadd:(⟨fb,0,none⟩:Addr).add k=⟨fb,k,none⟩:=by unfold Addr.add;split <;> simp_all
 rwa[hadd] at this
namespace Plain
def ixP (P:Int→Bool) (l:List Int):Int:=match l.findIdx? P with | some i=>(i:Int) | none=>-1
theorem ixP_hit {P:Int→Bool} {l:List Int} {k:Nat} (hk:k<l.length) (h:P (l.getD k 0)=true) (hno:∀ j,j<k→P (l.getD j 0)=false):ixP P l=k:=by
 have e:l.findIdx? P=some k:=by
  rw[List.findIdx?_eq_some_iff_getElem]
  refine⟨hk,by simpa[List.getD,hk] using h,fun j hj=>?_⟩
  have:=hno j hj
  simpa[List.getD,Nat.lt_trans hj hk] using this
 unfold ixP
 rw[e]
theorem ixP_miss {P:Int→Bool} {l:List Int} (hno:∀ j,j<l.length→P (l.getD j 0)=false):ixP P l = -1:=by
 have e:l.findIdx? P=none:=by
  rw[List.findIdx?_eq_none_iff]
  intro x hx
  obtain⟨i,hi,rfl⟩:=mem_getD hx
  exact hno i hi
 unfold ixP
 rw[e]
theorem ixP_any (P:Int→Bool) (l:List Int):decide (ixP P l ≥ 0)=l.any P:=by
 cases h:l.any P with
 | true =>
  obtain⟨x,hx,hp⟩:=List.any_eq_true.1 h
  refine decide_eq_true ?_
  unfold ixP
  cases hf:l.findIdx? P with
  | some i=>show (i:Int) ≥ 0;omega
  | none =>
   have:=List.findIdx?_eq_none_iff.1 hf x hx
   rw[hp] at this;cases this
 | false =>
  refine decide_eq_false ?_
  rw[ixP_miss fun j hj=>by
   have:=List.any_eq_false.1 h _ (getD_in hj)
   exact Bool.eq_false_iff.2 this]
  omega
end Plain
theorem fit1_any (v bx hb N B:Nat) (f:Int→Bool) (w:World) (hv:v<N) (hc:w.cell? ⟨bx,0,none⟩=some (.slice (some ⟨hb,0,none⟩) N N)) (h:BitsAt w B hb N f) :
  Calls Try.prog 59 #[.int .i64 v,.pointer (some ⟨bx,0,none⟩)] w fun e w'=>e=.returned (.bool (!f v))∧Chg [] w w':=by
 have bc:=h.cell hv
 have hvi:(v:Int)<(N:Int):=by omega
 obtain⟨x,hx⟩:∃ x,f (v:Int)=x:=⟨_,rfl⟩
 rw[hx] at bc ⊢
 clear h hx
 go_enter Try.func59,Try.ntmps59
 go_wp2
 go_ret
 exact⟨rfl,Chg.refl _ _⟩
set_option maxRecDepth 100000 in
set_option maxHeartbeats 2000000 in
theorem ixfit_any (bx hb N B:Nat) (f:Int→Bool) (v:Value) (q:List Int) (w:World) (hq:∀ d∈q,0≤d∧d<N) (hql:q.length<1000000000) (hv:IntsAt w v q) (hc:w.cell? ⟨bx,0,none⟩=some (.slice (some ⟨hb,0,none⟩) N N)) (h:BitsAt w B hb N f) :
  Calls Try.prog 37 #[v,.func (Fn.func 59) #[] #[.pointer (some ⟨bx,0,none⟩)]] w fun e w'=>e=.returned (.int .i64 (Plain.ixP (fun x=>!f x) q))∧Chg [] w w':=by
 have HQ:=lh hq
 have HV:=lh hv
 have HCC:=lh hc
 have HB:=lh h
 obtain⟨ao,ac,rfl,-,-,-⟩:=hv
 clear hq hc h
 go_enter Try.func37,Try.ntmps37
 go_wp2
 go_loopw [8] (fun c wr=>∃ k:Nat,k≤q.length∧c=.int .i64 k∧Hid (∀ j,j<k→(!f (q.getD j 0))=false)∧Chg [] w wr) (fun c _=>q.length - (intOf c).toNat)
 case atStart=>exact⟨0,Nat.zero_le _,rfl,lh (by omega),Chg.refl _ _⟩
 case round =>
  obtain⟨k,hk,rfl,HN,hc⟩:=hrel
  have HC:=lh hc
  by_cases hlt:k<q.length
  ·obtain⟨rb,roff,rfl,rc⟩:=IntsAt.cellAt HV.out hlt
   have rcell:=hc.cell rc (by simp)
   have hr:=HQ.out _ (Plain.getD_mem hlt)
   have HHIT:=lh (fun (h:(!f (q.getD k 0))=true)=>Plain.ixP_hit (P:=fun x=>!f x) hlt h HN.out)
   have HNN:=lh (fun (h:(!f (q.getD k 0))=false) j (hj:j<k+1)=>(show (!f (q.getD j 0))=false from by
    by_cases e:j=k
    ·rw[e];exact h
    exact HN.out j (by omega)))
   obtain⟨n,e1⟩:∃ n:Nat,q.getD k 0=n:=⟨(q.getD k 0).toNat,by omega⟩
   rw[e1] at rcell HHIT HNN hr
   have hnN:n<N:=by omega
   clear rc e1 hc hr
   go_wp2_with fail
   refine (fit1_any n bx hb N B f _ hnN (HC.out.cell HCC.out (by simp)) (HB.out.chg HC.out (by simp))).mono ?_
   rintro e w2 ⟨rfl,hc2⟩
   have HC2:=lh (HC.out.trans hc2 (by simp))
   clear hc2 rcell
   cases h:(!f (n:Int)) with
   | true =>
    have HI:=lh (HHIT.out h)
    clear h
    go_wp2
    go_ret
    exact⟨ret_int (show ((k:Nat):Int)=_ by rw[HI.out]),HC2.out⟩
   | false =>
    have HI:=lh (HNN.out h)
    clear h
    go_wp2
    go_roundw
    case rel=>exact⟨k+1,by omega,by go_num,HI,HC2.out⟩
    case measure=>simp[intOf];omega
  have e:k=q.length:=by omega
  subst e
  have HI:=lh (Plain.ixP_miss (P:=fun x=>!f x) HN.out)
  clear hc
  go_wp2
  go_ret
  exact⟨ret_int (show (-1:Int)=_ by rw[HI.out]),HC.out⟩
theorem cffit_any (bx hb N B:Nat) (f:Int→Bool) (v:Value) (q:List Int) (w:World) (hq:∀ d∈q,0≤d∧d<N) (hql:q.length<1000000000) (hv:IntsAt w v q) (hc:w.cell? ⟨bx,0,none⟩=some (.slice (some ⟨hb,0,none⟩) N N)) (h:BitsAt w B hb N f) :
  Calls Try.prog 58 #[v,.func (Fn.func 59) #[] #[.pointer (some ⟨bx,0,none⟩)]] w fun e w'=>e=.returned (.bool (!q.all f))∧Chg [] w w':=by
 have HI:=lh (ixfit_any bx hb N B f v q w hq hql hv hc h)
 have HE:=lh (show (!q.all f)=decide (Plain.ixP (fun x=>!f x) q ≥ 0) by rw[Plain.ixP_any,List.any_eq_not_all_not];simp)
 clear hq hv hc h
 go_enter Try.func58,Try.ntmps58
 go_wp2_with fail
 refine HI.out.mono ?_
 rintro e w2 ⟨rfl,hc2⟩
 have HC2:=lh hc2
 clear hc2
 generalize Plain.ixP (fun x=>!f x) q=z at *
 go_wp2
 go_ret
 exact⟨ret_bool (by show _=(!q.all f);rw[HE.out]),HC2.out⟩
set_option maxRecDepth 100000 in
set_option maxHeartbeats 4000000 in
theorem fitting_any (sb N B:Nat) (fv vV vK:Value) (g:Plain.Gr) (F:List (List Int)) (xs:List Value) (V ks:List Int) (w:World) (hq:w.cell? ⟨sb,3,none⟩=some fv) (hF:FacesAt g w B N fv xs F) (hVl:V.length<1000000) (hkl:ks.length<1000000) (hV:∀ v∈V,0≤v∧v<N) (hk:∀ i∈ks,0≤i∧i<F.length) (hFl:F.length<1000000) (h1:IntsAt w vV V) (h2:IntsAt w vK ks) :
  Calls Try.prog 40 #[.pointer (some ⟨sb,0,none⟩),vV,vK] w fun e w'=>∃ v',e=.returned v'∧RowAt w' w.heap.size v' (Plain.fitF g F V ks)∧Chg [] w w':=by
 have HF:=lh hF
 have HV:=lh hV
 have HK:=lh hk
 have H1:=lh h1
 have H2:=lh h2
 have HQ:=lh hq
 obtain⟨fo,fc,rfl⟩:=owns_shape hF.out
 obtain⟨vo,vc,rfl,-,-,-⟩:=h1
 obtain⟨ko,kc,rfl,-,-,-⟩:=h2
 clear hF hV hk hq
 go_enter Try.func40,Try.ntmps40
 go_wp2_with fail
 go_loopw [7,9,10,13] (fun c7 _ _ c wr=>∃ k:Nat,k≤ks.length∧c=.int .i64 k∧RowAt wr w.heap.size c7 (Plain.fitF g F V (ks.take k))∧Chg [] w wr) (fun _ _ _ c _=>ks.length - (intOf c).toNat)
 case atStart=>exact⟨0,Nat.zero_le _,rfl,rowNil' _ _,Chg.refl _ _⟩
 case round =>
  obtain⟨k,hk,rfl,hrow,hc⟩:=hrel
  have HROW:=lh hrow
  have HC:=lh hc
  obtain⟨oo,oc,rfl⟩:=hrow.shape
  have HML:=lh (show (Plain.fitF g F V (ks.take k)).length<1000000 by have h1:=List.length_filter_le (fun i=>V.all fun v=>Plain.hasV g (Plain.faceAt F i) v) (ks.take k);rw[List.length_take] at h1;unfold Plain.fitF;omega)
  clear hrow hc
  by_cases hlt:k<ks.length
  ·obtain⟨rb,roff,rfl,rc⟩:=IntsAt.cellAt H2.out hlt
   have rcell:=HC.out.cell rc (by simp)
   have hkr:=HK.out _ (Plain.getD_mem hlt)
   have HFT:=lh (show Plain.fitF g F V (ks.take (k+1))=Plain.fitF g F V (ks.take k)++(if (V.all fun v=>Plain.hasV g (Plain.faceAt F (ks.getD k 0)) v)=true then [ks.getD k 0] else []) from Plain.filter_take_succ _ hlt)
   obtain⟨i,hi⟩:∃ i:Nat,ks.getD k 0=i:=⟨(ks.getD k 0).toNat,by omega⟩
   rw[hi] at rcell hkr HFT
   have hiF:i<F.length:=by omega
   have hii:(i:Int)<(F.length:Int):=by omega
   have HFA:=lh (show Plain.faceAt F (i:Int)=F.getD i [] by unfold Plain.faceAt;rw[Int.toNat_natCast])
   have HFW:=lh (HF.out.fresh HC.out)
   obtain⟨fb,fc2,efb⟩:=owns_some HF.out.out (by omega)
   simp only[Value.slice.injEq,true_and] at efb
   obtain⟨rfl,rfl⟩:=efb
   obtain⟨hb,ehb,hbits⟩:=HFW.out.has i hiF
   have hcell:=HFW.out.cell (k:=2*i+1) (by rw[HF.out.len];omega)
   rw[ehb] at hcell
   have hcell2:wr.cell? ⟨fb,i*2+1,none⟩=some (.slice (some ⟨hb,0,none⟩) N N):=by rw[Nat.mul_comm];exact hcell
   have HBI:=lh hbits
   have q3:=HC.out.cell HQ.out (by simp)
   have I64i:I64 (i:Int):=I64.mk (by omega) (by omega)
   obtain⟨M,hM⟩:∃ M,Plain.fitF g F V (ks.take k)=M:=⟨_,rfl⟩
   rw[hM] at HROW HFT HML ⊢
   have hml:M.length<4294967290:=by have:=HML.out;omega
   have HBX:=lh (heap_alloc_new wr (.cells #[.slice (some ⟨hb,0,none⟩) N N] 28))
   have HCA:=lh ((Chg.refl [] wr).alloc (.cells #[.slice (some ⟨hb,0,none⟩) N N] 28))
   clear rc hi hkr ehb hbits hcell hM
   go_wp2_with fail
   have hcf:=cffit_any wr.heap.size hb N B (Plain.hasV g (F.getD i [])) (.slice vo V.length vc) V (wr.alloc (.cells #[.slice (some ⟨hb,0,none⟩) N N] 28)) HV.out (by omega) (H1.out.fresh (HC.out.trans HCA.out (by simp))) ((cell_of_row _ _ 0 _ _ _ HBX.out).trans rfl) (HBI.out.chg HCA.out (by simp))
   refine hcf.mono ?_
   rintro _ w3 ⟨rfl,hc3⟩
   have HC3:=lh (HCA.out.trans hc3 (by simp))
   have HR3:=lh (HROW.out.chg HC3.out (by simp))
   have HCW:=lh (HC.out.trans HC3.out (by simp))
   have HSW:=lh HCW.out.size
   clear hcf hc3 hcell2 q3 rcell
   cases hall:V.all (Plain.hasV g (F.getD i [])) with
   | true =>
    have HKK:=lh (show Plain.fitF g F V (ks.take (k+1))=M++[(i:Int)] by rw[HFT.out,HFA.out];congr 1;exact if_pos hall)
    clear hall
    go_wp2_with (at_builtin;refine wl_push rfl _ _ rfl (B:=w.heap.size) (v:=.slice oo _ oc) rfl rfl HR3.out I64i HSW.out hml rfl ?_;intro v6 w6 r6 c6 f6;have R6:=lh r6;have C6:=lh c6;clear r6 c6 f6)
    go_roundw
    case rel=>exact⟨k+1,by omega,by go_num,by rw[HKK.out];exact R6.out,HCW.out.trans C6.out (fun j hj=>Or.inr (HR3.out.low j (by rw[←HR3.out.foot];exact hj)).1)⟩
    case measure=>simp[intOf];omega
   | false =>
    have HKK:=lh (show Plain.fitF g F V (ks.take (k+1))=M by rw[HFT.out,HFA.out,if_neg (by rw[show (V.all fun v=>Plain.hasV g (F.getD i []) v)=V.all (Plain.hasV g (F.getD i [])) from rfl,hall];simp),List.append_nil])
    clear hall
    go_wp2
    go_roundw
    case rel=>exact⟨k+1,by omega,by go_num,by rw[HKK.out];exact HR3.out,HCW.out⟩
    case measure=>simp[intOf];omega
  have e:k=ks.length:=by omega
  subst e
  rw[List.take_length] at HROW ⊢
  clear hk hlt
  go_wp2
  go_ret
  exact⟨_,rfl,HROW.out,HC.out⟩
theorem elemScrap:Elem 47 74 (.agg #[.slice none 0 0,.slice none 0 0,.slice none 0 0]) 3 72:=⟨Try.underlying47,by kernel_rfl,rfl,by decide,by decide⟩
def scr3 (L:List Plain.Scrap):List Cell:=L.flatMap fun c=>[.row c.edges,.row c.ends,.row c.faces]
theorem scr3_snoc (L:List Plain.Scrap) (c:Plain.Scrap):scr3 (L++[c])=scr3 L++[.row c.edges,.row c.ends,.row c.faces]:=by simp[scr3]
namespace Plain
def scUp (g:Gr) (on:Int→Bool) (E:List Int) (k:Nat):St × (Int→Option Int):=(E.take k).foldl (scEdge g on) (St.new E,fun _=>none)
theorem scUp_all (g:Gr) (on:Int→Bool) (E:List Int):scUp g on E E.length=scJoin g on E:=by unfold scUp scJoin;rw[List.take_length]
def scHalf (on:Int→Bool) (e:Int) (S:St × (Int→Option Int)) (x y:Int):Nat→St × (Int→Option Int)
 | 0=>S
 | 1=>scStep on e S x
 | _=>scStep on e (scStep on e S x) y
theorem scUp_snoc {g:Gr} {on:Int→Bool} {E:List Int} {k:Nat} (hk:k<E.length):scUp g on E (k+1)=scHalf on (E.getD k 0) (scUp g on E k) (g.at (E.getD k 0)).1 (g.at (E.getD k 0)).2 2:=by
 unfold scUp
 rw[List.take_succ_eq_append_getElem hk,List.foldl_append]
 simp[List.getD,hk,scHalf,scEdge]
theorem scStep_len {on:Int→Bool} {E:List Int} {H:Int→Int→Prop} {s:St × (Int→Option Int)} (h:ScI on E H s):s.1.all.length≤E.length:=by rw[h.all];exact St.new_len E
def mkScrap (g:Gr) (on:Int→Bool) (F:List (List Int)) (ks l:List Int):Scrap:=⟨l,endsOf g on l,fitF g F (endsOf g on l) ks⟩
theorem scraps_map (g:Gr) (on:Int→Bool) (F:List (List Int)) (E ks:List Int):scraps g on F E ks=(scJoin g on E).1.groups.map (mkScrap g on F ks):=rfl
end Plain
theorem new_sub (l:List Int):(St.new l).all.Sublist l:=by
 unfold St.new
 have h:∀ (l:List Int) (s:St),∃ m,(l.foldl St.put s).all=s.all++m∧m.Sublist l:=by
  intro l
  induction l with
  | nil=>intro s;exact⟨[],by simp,by simp⟩
  | cons x l ih =>
   intro s
   obtain⟨m,h1,h2⟩:=ih (s.put x)
   by_cases hx:x∈s.all
   ·rw[St.put_in hx] at h1
    exact⟨m,by rw[List.foldl_cons,St.put_in hx];exact h1,h2.cons x⟩
   rw[St.put_new hx] at h1
   exact⟨x :: m,by rw[List.foldl_cons,St.put_new hx,h1];simp,h2.cons_cons x⟩
 obtain⟨m,h1,h2⟩:=h l ⟨[],[]⟩
 rw[h1]
 simpa using h2
set_option maxRecDepth 100000 in
set_option maxHeartbeats 8000000 in
theorem scraps_any (sb ob N B:Nat) (vE fv vl vK:Value) (g:Plain.Gr) (on:Int→Bool) (F:List (List Int)) (xs0:List Value) (E ks:List Int) (w:World) (hG:GrIn w sb g vE N) (hq:w.cell? ⟨sb,2,none⟩=some (.slice (some ⟨ob,0,none⟩) N N)) (hon:BitsAt w B ob N on)
  (hq3:w.cell? ⟨sb,3,none⟩=some fv) (hF:FacesAt g w B N fv xs0 F) (hFl:F.length<1000000) (hl:E.length≤1024) (hd:∀ e∈E,0≤e∧e<g.e.length) (h:IntsAt w vl E) (hkl:ks.length<1000000) (hk:∀ i∈ks,0≤i∧i<F.length) (h2:IntsAt w vK ks) :
  Calls Try.prog 31 #[.pointer (some ⟨sb,0,none⟩),vl,vK] w fun e w'=>∃ ov xs,e=.returned ov∧Nest w' w.heap.size 74 3 ov (Plain.scraps g on F E ks).length xs (scr3 (Plain.scraps g on F E ks))∧Chg [] w w':=by
 have HG:=lh hG
 have HI:=lh h
 have HD:=lh hd
 have HON:=lh hon
 have HQ:=lh hq
 have HQ3:=lh hq3
 have HF:=lh hF
 have HK:=lh hk
 have HKI:=lh h2
 have HSM:=lh hG.small
 have HGN:=lh hG.n
 have HGE:=lh (Plain.Gr.err_ok hG.err)
 obtain⟨eo,cap,eqE,-,-,hsm,hcell⟩:=hG.gr
 have HCE:=lh hcell
 have HGS:=lh hsm
 simp only[Value.agg.injEq,Array.mk.injEq,List.cons.injEq,true_and,and_true] at eqE
 subst eqE
 obtain⟨lo,lc,rfl,-,hm,-⟩:=h
 obtain⟨ko,kc,rfl,-,hkm,-⟩:=h2
 have HIN:=lh (fun (k:Nat)=>Plain.ScI.fold (g:=g) (on:=on) (E:=E) (E.take k) (Plain.ScI.start on E) (fun _ h=>List.mem_of_mem_take h))
 clear hd hG hcell hsm hon hq hq3 hF hk
 go_enter Try.func31,Try.ntmps31
 go_wp2_with fail
 refine (new_any _ E w (by omega) HI.out).mono ?_
 rintro _ w2 ⟨pb,own,rfl,hso,hc2,hlow⟩
 have HSO:=lh hso
 have HC2:=lh hc2
 have HLOW:=lh hlow
 have hmm:=@run_makeMap Try.prog
 clear hso hc2 hlow
 go_wp2_with fail
 clear hmm
 have HMP:=lh (IMap.made w2)
 have HC3:=lh ((Chg.refl [] w2).alloc (.map #[] 0))
 have HOL:=lh (show ∀ j∈own,j<w2.heap.size from HSO.out.lt)
 have HSO3:=lh (HSO.out.chg HC3.out (by simp))
 have HW2:=lh HC2.out.size
 generalize w2.alloc (.map #[] 0)=w3 at *
 obtain⟨mp,hmp⟩:∃ mp,w2.heap.size=mp:=⟨_,rfl⟩
 rw[hmp] at HMP HOL HW2 ⊢
 have HC03:=lh (HC2.out.trans HC3.out (by simp))
 clear hmp HSO HC3
 go_loopw [10,12,13,14,24] (fun _ _ _ _ c wr=>∃ k:Nat,k≤E.length∧c=.int .i64 k∧∃ own,SetsObj wr pb own (Plain.scUp g on E k).1∧IMap wr mp (2*k) (Plain.scUp g on E k).2∧Hid (mp ∉ own)∧Hid (∀ j∈own,w.heap.size≤j)∧Chg [] w wr) (fun _ _ _ _ c _=>E.length - (intOf c).toNat)
 case atStart=>exact⟨0,Nat.zero_le _,rfl,own,HSO3.out,HMP.out,lh (fun q=>by have:=HOL.out _ q;omega),HLOW,HC03.out⟩
 case round =>
  obtain⟨k,hk,rfl,own1,hso,hmap,hmpo,hlow,hc⟩:=hrel
  have HS1:=lh hso
  have HM1:=lh hmap
  have HC:=lh hc
  clear hso hmap hc HSO3 HMP HC03 HOL HLOW HC2
  by_cases hlt:k<E.length
  ·obtain⟨rb,roff,rfl,rc⟩:=IntsAt.cellAt HI.out hlt
   have rcell:=HC.out.cell rc (by simp)
   have hdb:=HD.out _ (Plain.getD_mem hlt)
   have HES:=lh (Plain.scUp_snoc (g:=g) (on:=on) hlt)
   have hem:=Plain.getD_mem hlt
   have HEM:=lh hem
   obtain⟨en,hen⟩:∃ en:Nat,E.getD k 0=en:=⟨(E.getD k 0).toNat,by omega⟩
   rw[hen] at rcell hdb HES HEM
   have hel:en<g.e.length:=by omega
   have hei:en<2000:=by have:=HSM.out;omega
   obtain⟨eb,eoff,rfl,hc0,hc1⟩:=HCE.out en hel
   obtain⟨z1,z2⟩:=HGS.out en hel
   have hr:=HGE.out.2.2.2 en hel
   have c0:=HC.out.cell hc0 (by simp)
   have c1:=HC.out.cell hc1 (by simp)
   have q1:=HC.out.cell HG.out.c1 (by simp)
   have hat:g.at (en:Int)=g.ends en:=by unfold Plain.Gr.at;rw[Int.toNat_natCast]
   rw[hat] at HES
   obtain⟨x,hx⟩:∃ x:Nat,(g.ends en).1=x:=⟨(g.ends en).1.toNat,by omega⟩
   obtain⟨y,hy⟩:∃ y:Nat,(g.ends en).2=y:=⟨(g.ends en).2.toNat,by omega⟩
   rw[hx] at c0 z1 HES
   rw[hy] at c1 z2 HES
   have HXN:=lh (show x<N by rw[HGN.out,hx] at hr;omega)
   have HYN:=lh (show y<N by rw[HGN.out,hy] at hr;omega)
   have IEN:I64 (en:Int):=I64.mk (by omega) (by omega)
   have HSL:=lh (Plain.scStep_len (HIN.out k))
   have HIK:=lh (HIN.out k)
   obtain⟨S,hS⟩:∃ S,Plain.scUp g on E k=S:=⟨_,rfl⟩
   have HSS:=lh hS
   have HIK2:=lh (show Plain.ScI on E _ S by rw[←hS];exact HIK.out)
   rw[hS] at HS1 HM1 HES
   clear rc hdb hen hc0 hc1 hr hat hx hy hS hem HIK HSL
   go_wp2_with fail
   have hS0:Chg [] wr wr.drew:=(Chg.refl [] wr).drew
   refine wp_region_way (Chg [] wr) [0,1,2,3,4,5,6,7,8,9,10,11,12,13,14,15,16,17,19,20] (Way.line [0,1,2,3,4,5,6,7,8,9,10,11,12,13,14,15,16,17,20,18,19] .done) (by kernel_rfl) (by kernel_rfl) ?_
   simp only[Way.line]
   repeat
    first
     | (refine along_off rfl (by rfl) (by rfl) (fun _ _ _ h=>h) hS0 ?_;simp only[Act.put,Z1,Z2,Z3,Z4,Z5,Z6])
     | (refine along_read (v:=?_) rfl (by rfl) (by rfl) (fun _ _ _ h=>h) hS0 (fun w' hS'=>?_) ?_;rotate_left;(focus (have rd0:=hS'.cell q1 (by simp);have rd1:=hS'.cell c0 (by simp);have rd2:=hS'.cell c1 (by simp);clear hS';go_simp;try with_reducible rfl));simp only[Act.put,Z1,Z2,Z3,Z4,Z5,Z6])
     | (refine along_skip rfl (by rfl) (by rfl) hS0 ?_;simp only[Act.put,Z1,Z2,Z3,Z4,Z5,Z6])
   refine along_op rfl (by rfl) (by rfl) (fun K hK=>?_)
   go_simp
   have hS1:=hS0.alloc (.cells #[.int .i64 (x:Int),.int .i64 (y:Int)] 3)
   refine hK.out _ _ (fun _=>hS1) ?_
   clear hK K
   try simp only[Act.put,Z1,Z2,Z3,Z4,Z5,Z6]
   repeat
    first
     | (refine along_off rfl (by rfl) (by rfl) (fun _ _ _ h=>h) hS1 ?_;simp only[Act.put,Z1,Z2,Z3,Z4,Z5,Z6])
     | (refine along_read (v:=?_) rfl (by rfl) (by rfl) (fun _ _ _ h=>h) hS1 (fun w' hS'=>?_) ?_;rotate_left;(focus (skip;clear hS';go_simp;try with_reducible rfl));simp only[Act.put,Z1,Z2,Z3,Z4,Z5,Z6])
     | (refine along_skip rfl (by rfl) (by rfl) hS1 ?_;simp only[Act.put,Z1,Z2,Z3,Z4,Z5,Z6])
   refine along_done ?_
   have HBX:=lh (show (wr.alloc (.cells #[.int .i64 (x:Int),.int .i64 (y:Int)] 3)).drew.heap[wr.heap.size]?=some (.cells #[.int .i64 (x:Int),.int .i64 (y:Int)] 3 (0,0)) from heap_alloc_new wr _)
   have HC4:=lh (show Chg [] wr (wr.alloc (.cells #[.int .i64 (x:Int),.int .i64 (y:Int)] 3)).drew from ((Chg.refl [] wr).alloc _).drew)
   have HSA:=lh (HS1.out.chg HC4.out (by simp))
   have HMA:=lh (HM1.out.chg HC4.out (by simp))
   have HOL:=lh HS1.out.lt
   clear hS0 hS1 q1 c0 c1 rcell HS1 HM1
   generalize (wr.alloc (.cells #[.int .i64 (x:Int),.int .i64 (y:Int)] 3)).drew=wd at *
   obtain⟨pl,hpl⟩:∃ pl,wr.heap.size=pl:=⟨_,rfl⟩
   rw[hpl] at HBX HOL ⊢
   have HC5:=lh (HC.out.trans HC4.out (by simp))
   have HWP:=lh (show w.heap.size≤pl by rw[←hpl];exact HC.out.size)
   clear hpl
   have HZ:=lh (show ∀ j:Nat,j<2→∃ z:Nat,z<N∧(∀ wx:World,wx.heap[pl]?=some (.cells #[.int .i64 (x:Int),.int .i64 (y:Int)] 3 (0,0))→wx.cell? ⟨pl,j,none⟩=some (.int .i64 (z:Int)))∧I64 (z:Int)∧Plain.scHalf on en S x y (j+1)=Plain.scStep on en (Plain.scHalf on en S x y j) z from fun j hj=>by
    rcases (show j=0∨j=1 by omega) with rfl | rfl
    ·exact⟨x,HXN.out,fun wx hx=>(cell_of_row _ _ 0 _ _ _ hx).trans rfl,z1,rfl⟩
    exact⟨y,HYN.out,fun wx hx=>(cell_of_row _ _ 1 _ _ _ hx).trans rfl,z2,rfl⟩)
   have HHI:=lh (show ∀ j:Nat,∃ H,Plain.ScI on E H (Plain.scHalf on en S x y j) from fun j=>by
    match j with
    | 0=>exact⟨_,HIK2.out⟩
    | 1=>exact⟨_,HIK2.out.step HEM.out⟩
    | j+2=>exact⟨_,(HIK2.out.step HEM.out).step HEM.out⟩)
   rename World=>wo
   go_wp2_with fail
   go_loopw [12,13,14,48] (fun _ _ _ c wr=>∃ j:Nat,j≤2∧c=.int .i64 j∧wr.heap[pl]?=some (.cells #[.int .i64 (x:Int),.int .i64 (y:Int)] 3 (0,0))∧∃ own,SetsObj wr pb own (Plain.scHalf on en S x y j).1∧IMap wr mp (2*k+j) (Plain.scHalf on en S x y j).2∧Hid (mp ∉ own)∧Hid (pl ∉ own)∧Hid (∀ j∈own,w.heap.size≤j)∧Chg [] w wr) (fun _ _ _ c _=>2 - (intOf c).toNat)
   case atStart=>exact⟨0,Nat.zero_le _,rfl,HBX.out,own1,HSA.out,HMA.out,hmpo,lh (fun q=>by have:=HOL.out _ q;omega),hlow,HC5.out⟩
   case round =>
    obtain⟨j,hj,rfl,hbx,own2,hso,hmap,hmpo2,hplo,hlow2,hcr⟩:=hrel
    have HB2:=lh hbx
    have HS2:=lh hso
    have HM2:=lh hmap
    have HCR:=lh hcr
    clear hbx hso hmap hcr HSA HMA HC5
    by_cases hj2:j<2
    ·obtain⟨z,hzN,hzc,hz64,hzf⟩:=HZ.out j hj2
     have pz:=hzc _ HB2.out
     have s2:=HCR.out.cell HQ.out (by simp)
     have bz:=((HON.out.base (Nat.zero_le _)).chg HCR.out (by simp)).cell hzN
     have HZF:=lh hzf
     have hji:(j:Int)<2:=by omega
     have hzi:(z:Int)<(N:Int):=by omega
     obtain⟨H,hH⟩:=HHI.out j
     have HH:=lh hH
     obtain⟨T,hT⟩:∃ T,Plain.scHalf on en S x y j=T:=⟨_,rfl⟩
     rw[hT] at HS2 HM2 HZF HH
     have hkn:2*k+j<100000:=by omega
     clear hzc hzf hT hH
     cases hb:on (z:Int) with
     | true =>
      rw[hb] at bz
      have HKK:=lh (show Plain.scHalf on en S x y (j+1)=T by rw[HZF.out];unfold Plain.scStep;rw[hb];simp)
      clear hb
      go_wp2
      go_roundw
      case rel=>exact⟨j+1,by omega,by go_num,HB2.out,own2,by rw[HKK.out];exact HS2.out,by rw[HKK.out];exact HM2.out.mono (by omega),hmpo2,hplo,hlow2,HCR.out⟩
      case measure=>simp[intOf];omega
     | false =>
      rw[hb] at bz
      have HBB:=lh hb
      clear hb
      cases hfz:T.2 (z:Int) with
      | some f =>
       have HFZ:=lh hfz
       have HK2:=lh (show Plain.scHalf on en S x y (j+1)=(T.1.join f en,T.2) by rw[HZF.out];unfold Plain.scStep;rw[HBB.out,hfz];rfl)
       have hfE:=(HH.out.src (z:Int) f hfz).1
       have hfr:=HD.out f hfE
       have IF:I64 f:=I64.mk (by omega) (by have:=HSM.out;omega)
       have HJL:=lh (Plain.scStep_len HH.out)
       clear hfz hfE hfr
       go_wp2_with (at_lookup;refine wp_look_hit _ rfl _ _ rfl HM2.out rfl hz64 rfl HFZ ?_)
       refine (join_any pb own2 T.1 f en wr IF IEN (by have:=HJL.out;omega) HS2.out).mono ?_
       rintro _ w6 ⟨rfl,own3,hso3,hc6,hsub⟩
       have HS3:=lh hso3
       have HC6:=lh hc6
       have HSUB:=lh hsub
       have HML:=lh HM2.out.lt
       clear hso3 hc6 hsub
       go_wp2
       go_roundw
       case rel =>
        refine⟨j+1,by omega,by go_num,HC6.out.heap HB2.out hplo.out,own3,by rw[HK2.out];exact HS3.out,by rw[HK2.out];exact (HM2.out.chg HC6.out hmpo2.out).mono (by omega),lh (fun q=>?_),lh (fun q=>?_),lh (fun b hb=>?_),HCR.out.trans HC6.out (fun b hb=>Or.inr (hlow2.out b hb))⟩
        ·rcases HSUB.out _ q with r | r
         ·exact hmpo2.out r
         have:=HML.out;omega
        ·rcases HSUB.out _ q with r | r
         ·exact hplo.out r
         have:=lt_of_block HB2.out;omega
        rcases HSUB.out _ hb with r | r
        ·exact hlow2.out _ r
        have:=HCR.out.size;omega
       case measure=>simp[intOf];omega
      | none =>
       have HFZ:=lh hfz
       have HK2:=lh (show Plain.scHalf on en S x y (j+1)=(T.1,fun u=>if u=(z:Int) then some (en:Int) else T.2 u) by rw[HZF.out];unfold Plain.scStep;rw[HBB.out,hfz];rfl)
       clear hfz
       go_wp2_with (first
        | (at_lookup;refine wp_look_miss _ rfl _ _ rfl HM2.out rfl hz64 rfl HFZ ?_)
        | (at_mapUpdate;refine wp_store _ rfl _ _ _ rfl HM2.out (by unfold maxLen;omega) rfl hz64 IEN rfl rfl ?_;intro w7 hm7 hg7;have HM7:=lh hm7;have HG7:=lh ((Chg.refl [mp] wr).grown hg7 (fun j hj=>by cases hj;exact Or.inl (by simp)));clear hm7 hg7))
       go_roundw
       case rel =>
        refine⟨j+1,by omega,by go_num,HG7.out.heap HB2.out (by rw[List.mem_singleton];exact HM2.out.ne HB2.out),own2,by rw[HK2.out];exact HS2.out.chg HG7.out (fun b hb q=>hmpo2.out (by rw[List.mem_singleton] at q;rw[←q];exact hb)),by rw[HK2.out];exact HM7.out,hmpo2,hplo,hlow2,HCR.out.trans HG7.out (fun b hb=>Or.inr (by rw[List.mem_singleton] at hb;have:=HW2.out;omega))⟩
       case measure=>simp[intOf];omega
    have e2:j=2:=by omega
    subst e2
    have HKK:=lh (show Plain.scUp g on E (k+1)=Plain.scHalf on en S x y 2 from HES.out)
    have hkk:k<E.length:=hlt
    have HM22:=lh (show IMap wr mp (2*(k+1)) (Plain.scHalf on en S x y 2).2 from HM2.out)
    clear hj hj2
    go_wp2
    go_roundw
    case rel=>exact⟨k+1,by omega,by go_num,own2,by rw[HKK.out];exact HS2.out,by rw[HKK.out];exact HM22.out,hmpo2,hlow2,HCR.out⟩
    case measure=>simp[intOf];omega
  have e:k=E.length:=by omega
  subst e
  rw[Plain.scUp_all] at HS1
  have HSL:=lh (show (Plain.scJoin g on E).1.all.length≤E.length from Plain.scStep_len (Plain.scJoin_ok g on E))
  have HOK:=lh (Plain.scJoin_ok g on E)
  clear hk hlt HM1
  go_wp2_with fail
  refine (groups_keep pb own1 (Plain.scJoin g on E).1 wr (by have:=HSL.out;omega) HS1.out).mono ?_
  rintro _ wG ⟨ov,vs,rfl,hrows,-,hcg⟩
  have HRO:=lh hrows
  have HCG:=lh (show Chg [] w wG from HC.out.trans hcg (fun j hj=>Or.inr (hlow.out j hj)))
  have HWR:=lh HC.out.size
  obtain⟨Gs,hGs⟩:∃ Gs,(Plain.scJoin g on E).1.groups=Gs:=⟨_,rfl⟩
  have HGS2:=lh hGs
  have hgin:∀ l∈Gs,l.Sublist E:=fun l hl=>by
   rw[←hGs] at hl
   have h1:=Plain.groups_sub hl
   rw[HOK.out.all] at h1
   exact h1.trans (new_sub E)
  have HGI:=lh hgin
  have HGL:=lh (show Gs.length≤1024 by
   rw[←hGs]
   have h1:(Plain.scJoin g on E).1.groups.length≤(Plain.scJoin g on E).1.all.length:=by
    unfold St.groups St.gr St.heads
    rw[List.length_map]
    exact Nat.le_trans (List.length_filter_le _ _) (by simp)
   have:=HSL.out
   omega)
  rw[hGs] at HRO
  obtain⟨vo,vc,rfl⟩:=owns_shape hrows.out
  have hvl:vs.length=Gs.length:=HRO.out.len
  rw[hvl]
  have HVL:=lh hvl
  have HSC:=lh (show Plain.scraps g on F E ks=Gs.map (Plain.mkScrap g on F ks) by rw[Plain.scraps_map,hGs])
  obtain⟨bq,hbq⟩:∃ b,wr.heap.size=b:=⟨_,rfl⟩
  rw[hbq] at HRO HWR
  clear hrows hcg hgin hGs hvl HS1 HC hbq
  go_wp2_with fail
  go_loopw [15,17,18,78] (fun c15 _ _ c wr=>∃ i:Nat,i≤Gs.length∧c=.int .i64 i∧∃ xs,Nest wr w.heap.size 74 3 c15 i xs (scr3 ((Gs.take i).map (Plain.mkScrap g on F ks)))∧Hid (∀ k b,k<xs.length→(xs.getD k undef).ownBlock=some b→(∃ j,j<i∧(vs.getD j undef).ownBlock=some b)∨wG.heap.size≤b)∧Hid (∀ b,c15.ownBlock=some b→wG.heap.size≤b)∧Chg [] wG wr) (fun _ _ _ c _=>Gs.length - (intOf c).toNat)
  case atStart=>exact⟨0,Nat.zero_le _,rfl,[],Nest.nil _ _ _ _,lh (by simp),lh (by simp[Value.ownBlock]),Chg.refl _ _⟩
  case round =>
   obtain⟨i,hi,rfl,xs,hne,hbl,HOB,hcr⟩:=hrel
   have HNE:=lh hne
   have HCR:=lh hcr
   have HCW:=lh (HCG.out.trans hcr (by simp))
   obtain⟨uo,uc,rfl⟩:=hne.shape
   clear hne hcr
   by_cases hlt:i<Gs.length
   ·obtain⟨gb,gc,egb⟩:=owns_some HRO.out.out (by rw[HVL.out];omega)
    simp only[Value.slice.injEq] at egb
    obtain⟨rfl,-,rfl⟩:=egb
    have hrow0:=HRO.out.rows i (by rw[HVL.out];exact hlt)
    have hcell0:=World.ownsRow.cells HRO.out.out (g:=gb) rfl i (vs.getD i undef) (by simp[List.getD,show i<vs.length by rw[HVL.out];exact hlt])
    rw[show (⟨gb,0,none⟩:Addr).add i=⟨gb,i,none⟩ by unfold Addr.add;split <;> simp_all] at hcell0
    have HMP2:=lh (show (Gs.take (i+1)).map (Plain.mkScrap g on F ks)=(Gs.take i).map (Plain.mkScrap g on F ks)++[Plain.mkScrap g on F ks (Gs.getD i [])] by
     rw[List.take_succ_eq_append_getElem hlt,List.map_append]
     simp[List.getD,hlt])
    have hLm:Gs.getD i []∈Gs:=by simp[List.getD,hlt]
    have hsub:=HGI.out _ hLm
    obtain⟨L,hL⟩:∃ L,Gs.getD i []=L:=⟨_,rfl⟩
    rw[hL] at hrow0 HMP2 hsub
    have hLl:L.length≤1024:=Nat.le_trans hsub.length_le hl
    have hLe:∀ e∈L,0≤e∧e<g.e.length:=fun e he=>HD.out e (hsub.subset he)
    have hrowL:RowAt wG bq (vs.getD i undef) L:=⟨hrow0,fun x hx=>by have:=hLe x hx;exact I64.mk (by omega) (by have:=HSM.out;omega),by omega⟩
    obtain⟨u,hu⟩:∃ u,vs.getD i undef=u:=⟨_,rfl⟩
    have HU:=lh hu
    rw[hu] at hrowL hcell0
    obtain⟨uo2,uc2,rfl⟩:=hrowL.shape
    have ck:=HCR.out.cell hcell0 (by simp)
    have HRL:=lh hrowL
    have HLE:=lh hLe
    clear hrow0 hcell0 hLm hsub hL hu hrowL hLe
    have hub:∀ b,(Value.slice uo2 L.length uc2).ownBlock=some b→bq≤b∧b<wG.heap.size:=fun b hb=>HRL.out.low b (by rw[hb];simp)
    have HUB:=lh hub
    have HUX:=lh (show ∀ k b,k<xs.length→(xs.getD k undef).ownBlock=some b→(Value.slice uo2 L.length uc2).ownBlock≠some b from fun k b hk hb e=>by
     rcases hbl.out k b hk hb with ⟨j,hj,q⟩ | q
     ·rcases HRO.out.apart j i (by rw[HVL.out];omega) (by rw[HVL.out];omega) (by omega) with r | r
      ·rw[r] at q;cases q
      exact r (by rw[q,HU.out];exact e.symm)
     have:=(hub b e).2;omega)
    have HVN:=lh (show ∀ v∈Plain.endsOf g on L,0≤v∧v<N from fun v hv=>by
     obtain⟨-,e,he,hev⟩:=Plain.mem_endsOf.1 hv
     have hr:=HLE.out e he
     have h4:=HGE.out.2.2.2 e.toNat (by omega)
     have hn:=HGN.out
     have hat:g.at e=g.ends e.toNat:=rfl
     rcases hev with q | q <;> (rw[hat] at q;omega))
    have HVL2:=lh (show (Plain.endsOf g on L).length<1000000 by have:=nodup_small (Plain.endsOf_nodup g on L) HVN.out;have:=HSM.out;omega)
    have HG':=lh (HG.out.fresh HCW.out)
    have HQ':=lh (HCW.out.cell HQ.out (by simp))
    have HQ3':=lh (HCW.out.cell HQ3.out (by simp))
    have HON':=lh (HON.out.chg HCW.out (by simp))
    have HF':=lh (HF.out.fresh HCW.out)
    have HRL':=lh (HRL.out.chg HCR.out (by simp))
    have HK2:=lh ((IntsAt.chg HKI.out HCW.out (by simp)))
    clear hub
    go_wp2_with fail
    refine (ends_any sb ob N B _ _ g on L _ HG'.out HQ'.out HON'.out (by omega) HLE.out HRL'.out.ints).mono ?_
    rintro _ w6 ⟨v6,rfl,h6,hc6⟩
    obtain⟨o6,c6,rfl⟩:=h6.shape
    have HR6:=lh h6
    have HC6:=lh hc6
    clear h6 hc6
    go_wp2_with fail
    refine (fitting_any sb N B fv _ _ g F xs0 (Plain.endsOf g on L) ks _ (HC6.out.cell HQ3'.out (by simp)) (HF'.out.fresh HC6.out) HVL2.out hkl HVN.out HK.out hFl HR6.out.ints (HK2.out.chg HC6.out (by simp))).mono ?_
    rintro _ w8 ⟨v8,rfl,h8,hc8⟩
    obtain⟨o8,c8,rfl⟩:=h8.shape
    have HNE8:=lh ((HNE.out.fresh HC6.out).fresh hc8)
    have HC8:=lh ((HCR.out.trans HC6.out (by simp)).trans hc8 (by simp))
    have HS8:=lh (show wG.heap.size≤wr.heap.size∧wr.heap.size≤w6.heap.size∧w6.heap.size≤w8.heap.size∧w.heap.size≤w8.heap.size from⟨HCR.out.size,HC6.out.size,hc8.size,(HCG.out.trans HC8.out (by simp)).size⟩)
    have H1:=lh (((HRL'.out.chg HC6.out (by simp)).chg hc8 (by simp)).base (B:=w.heap.size) HWR.out)
    have H2:=lh ((HR6.out.chg hc8 (by simp)).base (B:=w.heap.size) HCW.out.size)
    have H3:=lh (h8.base (B:=w.heap.size) (by have:=HS8.out;have:=HCW.out.size;omega))
    have H2L:=lh (show ∀ b,(Value.slice o6 (Plain.endsOf g on L).length c6).ownBlock=some b→wr.heap.size≤b∧b<w6.heap.size from fun b hb=>HR6.out.low b (by rw[hb];simp))
    have H3L:=lh (show ∀ b,(Value.slice o8 (Plain.fitF g F (Plain.endsOf g on L) ks).length c8).ownBlock=some b→w6.heap.size≤b from fun b hb=>(h8.low b (by rw[hb];simp)).1)
    have HXL:=lh (show ∀ k b,k<xs.length→(xs.getD k undef).ownBlock=some b→b<wr.heap.size from fun k b hk hb=>(HNE.out.kind hk hb).2.1)
    have HONE:=lh (show ∀ u∈(#[Value.slice uo2 L.length uc2,Value.slice o6 (Plain.endsOf g on L).length c6,Value.slice o8 (Plain.fitF g F (Plain.endsOf g on L) ks).length c8]:Array Value).toList,u.oneCell'=true from fun u hu=>by
     simp at hu
     rcases hu with rfl | rfl | rfl <;> rfl)
    have HI:=lh (show i<68719476736 by have:=HGL.out;omega)
    have hgl:=HGL.out
    clear h8 hc8 ck
    go_wp2_with (at_builtin;refine wp_app elemScrap rfl _ _ rfl (v:=.slice uo i uc) rfl rfl rfl HNE8.out.out HS8.out.2.2.2 rfl HONE.out HI.out ?_;intro g4 cap4 w9 r9 c9 l9;have R9:=lh r9;have C9:=lh c9;have L9:=lh l9;clear r9 c9 l9)
    go_roundw
    case rel =>
     have hadd:=HNE8.out.add (us:=[.slice uo2 L.length uc2,.slice o6 (Plain.endsOf g on L).length c6,.slice o8 (Plain.fitF g F (Plain.endsOf g on L) ks).length c8]) (ds:=[.row L,.row (Plain.endsOf g on L),.row (Plain.fitF g F (Plain.endsOf g on L) ks)]) (by decide) rfl rfl (fun j d hj=>by
      rcases j with _ | _ | _ | j
      ·simp at hj;subst hj;exact H1.out
      ·simp at hj;subst hj;exact H2.out
      ·simp at hj;subst hj;exact H3.out
      ·simp at hj) (fun a b ha hb hne=>by
      cases hq:([Value.slice uo2 L.length uc2,.slice o6 (Plain.endsOf g on L).length c6,.slice o8 (Plain.fitF g F (Plain.endsOf g on L) ks).length c8].getD a undef).ownBlock with
      | none=>exact Or.inl rfl
      | some q =>
       refine Or.inr fun e=>?_
       have s8:=HS8.out
       have u1:=HUB.out q
       have u2:=H2L.out q
       have u3:=H3L.out q
       simp at ha hb
       rcases (show a=0∨a=1∨a=2 by omega) with rfl | rfl | rfl <;> rcases (show b=0∨b=1∨b=2 by omega) with rfl | rfl | rfl <;>
        first
        | exact hne rfl
        | (
          have hq:=hq
          have e:=e.symm
          simp only[List.getD,List.getElem?_cons_zero,List.getElem?_cons_succ,Option.getD_some] at hq e
          first
          | (have:=u1 hq;have:=u2 e;omega)
          | (have:=u1 hq;have:=u3 e;omega)
          | (have:=u2 hq;have:=u1 e;omega)
          | (have:=u2 hq;have:=u3 e;omega)
          | (have:=u3 hq;have:=u1 e;omega)
          | (have:=u3 hq;have:=u2 e;omega))) (fun a b q ha hb hq e=>by
      have h0:=HXL.out a q ha hq
      have s8:=HS8.out
      simp at hb
      rcases b with _ | _ | _ | b
      ·exact HUX.out a q ha hq e
      ·have:=(H2L.out q e).1
       omega
      ·have:=H3L.out q e
       omega
      omega) R9.out C9.out
     refine⟨i+1,by omega,by go_num,_,by rw[HMP2.out,scr3_snoc];exact hadd,lh (fun k b hk hb=>?_),lh (fun b hb=>?_),HC8.out.trans C9.out fun j hj=>Or.inr ?_⟩
     ·by_cases e1:k<xs.length
      ·rw[getD_left e1] at hb
       rcases hbl.out k b e1 hb with ⟨j,hj,q⟩ | q
       ·exact Or.inl ⟨j,by omega,q⟩
       exact Or.inr q
      rw[getD_right (by omega)] at hb
      have s8:=HS8.out
      rw[List.length_append] at hk
      simp only[List.length_cons,List.length_nil] at hk
      rcases (show k - xs.length=0∨k - xs.length=1∨k - xs.length=2 by omega) with r | r | r <;> rw[r] at hb
      ·exact Or.inl ⟨i,by omega,by rw[HU.out];exact hb⟩
      ·exact Or.inr (by have:=(H2L.out b hb).1;omega)
      exact Or.inr (by have:=H3L.out b hb;omega)
     ·have s8:=HS8.out
      have hb':b=g4:=by simp[Value.ownBlock] at hb;exact hb.symm
      subst hb'
      rcases L9.out with r | r
      ·exact HOB.out _ r
      omega
     exact HOB.out j (by simpa using hj)
    case measure=>simp[intOf];omega
   have e:i=Gs.length:=by omega
   subst e
   rw[List.take_length] at HNE
   have HSN:=lh (show (Plain.scraps g on F E ks).length=Gs.length by rw[HSC.out,List.length_map])
   clear hi hlt
   go_wp2
   go_ret
   exact⟨_,xs,rfl,by rw[HSN.out,HSC.out];exact HNE.out,HCW.out⟩
end Go.Proofs.Ytbkjljffnkdcjaa
