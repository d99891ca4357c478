/- block.find: contract. Conditions: what each theorem says. -/
import Derived.Test.YtbkjljffnkdcjaaS9VisW
namespace Go.Proofs.Ytbkjljffnkdcjaa
open Go.RowKit Go.Maps
theorem op_make {t e:TypeId} {z:Value} {size bytes:Nat} (E:Elem t e z size bytes) {o:Oper} {a:Act} {Q:Exit→Act→World→Prop} {K:Act→World→Prop} {w:World} (l c:Operand) (hop:o.op=Op.makeSlice t l c) {B n:Nat} (hl:a.eval l=.int .i64 n) (hc:a.eval c=.int .i64 n) (hB:B≤w.heap.size) (hn:n<68719476736)
  (hK:∀ w',w'.ownsRow B e size (.slice (some ⟨w.heap.size,0,none⟩) n n) n (madeCells z.cells (n*size)).toList→Chg [] w w'→K (a.put o.dst (.slice (some ⟨w.heap.size,0,none⟩) n n)) w'):Oper.wp Try.prog o a w K Q:=by
 obtain⟨i0,hi,hz0,hz1,hz2⟩:=info_parts E.hi
 have hb:=E.hb
 obtain⟨w',hrun,r1,r2⟩:=run_make_full (P:=Try.prog) w B t e i0 z size E.ht hi hz0 hz1 .i64 .i64 n (by
  rw[hz2]
  exact Nat.le_trans (Nat.mul_le_mul_right _ hb) (by omega)) (by unfold maxLen;omega) hB
 unfold Oper.wp
 simp[execOp,hop,hl,hc,hrun,Result.andThen]
 exact hK w' r1 ((Chg.refl _ _).grown r2 (by simp))
theorem nest_grow {w:World} {B n sz g cap q:Nat} {e:TypeId} {xs:List Value} {cs:List Cell} {l:List Int} {x:Int} (h:Nest w B e sz (.slice (some ⟨g,0,none⟩) n cap) n xs cs) (he:e≠3) (hB:B≤w.heap.size) (hq:q<xs.length) (hc:cs[q]?=some (.row l)) (hx:I64 x) (hn:l.length+1<4294967296) :
  ∃ va vc va' vc' w2,w.cell? ⟨g,q,none⟩=some (.slice va l.length vc)∧(Builtin.append_ #[25,25] 25 #[.slice va l.length vc,.slice (some ⟨w.heap.size,0,none⟩) 1 1]).run Try.prog (w.alloc (.cells #[.int .i64 x] 3))=.ok (.slice va' (l.length+1) vc') w2 ∧
   w2.cell? ⟨g,q,none⟩=some (.slice va l.length vc)∧w2.frozen? ⟨g,q,none⟩=false ∧
   Nest (w2.setCell ⟨g,q,none⟩ (.slice va' (l.length+1) vc')) B e sz (.slice (some ⟨g,0,none⟩) n cap) n (xs.set q (.slice va' (l.length+1) vc')) (cs.set q (.row (l++[x]))) ∧
   (∀ b∈foot (.slice va' (l.length+1) vc'),b∈foot (.slice va l.length vc)∨w.heap.size≤b)∧xs.getD q undef=.slice va l.length vc∧Chg (g :: foot (.slice va l.length vc)) w (w2.setCell ⟨g,q,none⟩ (.slice va' (l.length+1) vc'))∧Chg (foot (.slice va l.length vc)) w w2∧g ∉ foot (.slice va l.length vc)∧∀ (b:Nat) (cs:Array Value) (t:TypeId) (r:Nat × Nat),w.heap[b]?=some (.cells cs t r)→t≠3→b ∉ foot (.slice va l.length vc):=by
 have hrow:=h.row hc
 obtain⟨va,vc,ev⟩:=hrow.shape
 have hcell:=h.cell hq
 rw[ev] at hcell hrow
 have ca:Chg [] w (w.alloc (.cells #[.int .i64 x] 3)):=(Chg.refl _ _).alloc _
 obtain⟨v',w2,hr,r1,r2,r3⟩:=run_app_read (hrow.chg ca (by simp)) (lit_ints w hx) (Nat.le_trans hB ca.size) (by simp;omega) 25
 obtain⟨va',vc',ev'⟩:=r1.shape
 rw[show (l++[x]).length=l.length+1 by simp] at ev'
 subst ev'
 have hc2:Chg (foot (.slice va l.length vc)) w w2:=(ca.mono (by simp)).trans r2 (fun j hj=>Or.inl hj)
 have hfg:g ∉ foot (.slice va l.length vc):=fun em=>by
  obtain⟨cs',r,hh⟩:=row_kind hrow g em
  rcases h.out.2 with ⟨q,_⟩ | ⟨g',c',cur,q,_,hg,_⟩
  ·cases q
  simp only[Value.slice.injEq,Option.some.injEq,Addr.mk.injEq] at q
  obtain⟨⟨rfl,-⟩,-⟩:=q
  rw[hg] at hh
  simp at hh
  exact he hh.2.1
 have hcell2:=hc2.cell hcell hfg
 have hput:=h.put (v:=.slice va' (l.length+1) vc') (m:=l++[x]) he hq hc r1 (by rw[ev];exact hc2) (fun b hb=>by
  rw[ev]
  rcases r3 b hb with t | t
  ·exact Or.inl t
  exact Or.inr (Nat.le_trans ca.size t))
 have hgh:∃ cur,w.heap[g]?=some (.cells cur e (0,0)):=by
  rcases h.out.2 with ⟨q,_⟩ | ⟨g',c',cur,q,hb,hg,_⟩
  ·cases q
  simp only[Value.slice.injEq,Option.some.injEq,Addr.mk.injEq] at q
  obtain⟨⟨rfl,-⟩,-⟩:=q
  exact⟨_,hg⟩
 obtain⟨cur,hg⟩:=hgh
 have hg2:=hc2.heap hg hfg
 have hset:Chg [g] w2 (w2.setCell ⟨g,q,none⟩ (.slice va' (l.length+1) vc')):=(Chg.refl _ _).setCell (Or.inl (by simp)) _
 exact⟨va,vc,va',vc',w2,hcell,hr,hcell2,by simp[World.frozen?,hg2],hput,fun b hb=>(r3 b hb).imp id fun t=>Nat.le_trans ca.size t,ev,(hc2.mono (fun j hj=>Or.inl (by simp[hj]))).trans hset (fun j hj=>Or.inl (by simp at hj;simp[hj])),hc2,hfg,fun b cs t r hb ht hm=>by
  obtain⟨cs',r',hh⟩:=row_kind hrow b hm
  rw[hb] at hh
  simp at hh
  exact ht hh.2.1⟩
theorem keptC {w w':World} {b:Nat} {o:Obj} (hc:Chg [] w w') (h:w.heap[b]?=some o):w'.heap[b]?=some o:=hc.heap h (by simp)
theorem nest_made {w:World} {B fb n:Nat} (h:w.ownsRow B 25 1 (.slice (some ⟨fb,0,none⟩) n n) n (madeCells (Value.slice none 0 0).cells (n*1)).toList):Nest w B 25 1 (.slice (some ⟨fb,0,none⟩) n n) n (List.replicate n (.slice none 0 0)) (List.replicate n (.row [])):=by
 have e1:(madeCells (Value.slice none 0 0).cells (n*1)).toList=List.replicate n (.slice none 0 0):=by
  show (madeCells #[Value.slice none 0 0] (n*1)).toList=_
  rw[Nat.mul_one,toList_madeCells_one]
 rw[e1] at h
 have hv:∀ k,k<n→(List.replicate n (Value.slice none 0 0)).getD k undef=.slice none 0 0:=fun k hk=>by simp[List.getD,hk]
 refine⟨h,by simp,by simp,fun k c hk=>?_,fun k l hk _ _=>Or.inl ?_⟩
 ·obtain⟨h1,h2⟩:=List.getElem?_eq_some_iff.1 hk
  rw[List.length_replicate] at h1
  rw[List.getElem_replicate] at h2
  rw[hv k h1,←h2]
  exact rowNil w B
 rw[List.length_replicate] at hk
 rw[hv k hk]
 rfl
theorem darts_row {g:Plain.Gr} {p:Plain.Pt} {N k a:Nat} {d:Int} (hk:k<p.darts.length) (hd:p.darts.getD k 0=d) (ha:g.tail d=a) :
  ((List.range N).map fun v:Nat=>Cell.row (Plain.dartsTo g p v k)).set a (.row (Plain.dartsTo g p a k++[d]))=(List.range N).map fun v:Nat=>Cell.row (Plain.dartsTo g p v (k+1)):=by
 refine List.ext_getElem (by simp) fun i h1 h2=>?_
 rw[List.getElem_set]
 simp only[List.getElem_map,List.getElem_range]
 rw[Plain.dartsTo_next hk,hd,ha]
 by_cases e:a=i
 ·subst e
  rw[if_pos rfl,if_pos rfl]
 rw[if_neg e,if_neg (by omega)]
theorem low_set {a:Nat} {xs:List Value} {v v':Value} {w:World} {B:Nat} (hlo:∀ k b,k<xs.length→(xs.getD k undef).ownBlock=some b→B≤b) (ha:a<xs.length) (hv:xs.getD a undef=v) (hf:∀ b∈foot v',b∈foot v∨w.heap.size≤b) (h1:foot v'=v'.ownBlock.toList) (h2:foot v=v.ownBlock.toList) (hB:B≤w.heap.size) :
  ∀ k b,k<(xs.set a v').length→((xs.set a v').getD k undef).ownBlock=some b→B≤b:=fun k b hk hb=>by
 rw[List.length_set] at hk
 rw[getD_set' _ _ _ _ _ ha] at hb
 by_cases e:k=a
 ·rw[if_pos e] at hb
  rcases hf b (by rw[h1,hb];simp) with q | q
  ·refine hlo a b ha ?_
   rw[hv]
   rw[h2] at q
   simpa using q
  omega
 rw[if_neg e] at hb
 exact hlo k b hk hb
theorem fn_zero (n:Nat):((List.range n).map fun i:Nat=>(fun _:Int=>(0:Int)) i)=List.replicate n 0:=by
 rw[List.map_const']
 simp
theorem filter_two (f:Int→Bool):∀ D:List Int,(D.filter f).length+(D.filter fun d=>!f d).length=D.length
 | []=>rfl
 | d :: D=>by
  have ih:=filter_two f D
  cases h:f d <;> simp[h] <;> omega
theorem rises_len {l:List Int} {n:Int} (h:Plain.rises l n=true):l.length≤n.toNat:=by
 have h1:=Plain.len_le_of_sub (l:=l) (m:=(List.range n.toNat).map fun i:Nat=>(i:Int)) (Plain.rises_nodup h) fun x hx=>by
  obtain⟨i,hi,rfl⟩:=Plain.mem_getD hx
  have:=Plain.rises_at h hi
  exact List.mem_map.2 ⟨(l.getD i 0).toNat,List.mem_range.2 (by omega),by omega⟩
 simpa using h1
theorem sum_darts {g:Plain.Gr} {p:Plain.Pt}:∀ {l:List Int} {D:List Int},l.Nodup→(l.map fun u=>(D.filter fun d=>decide (g.tail d=u)).length+1).sum≤D.length+l.length
 | [],D,_=>by simp
 | u :: l,D,hn=>by
  rw[List.nodup_cons] at hn
  have h1:(l.map fun v=>(D.filter fun d=>decide (g.tail d=v)).length+1)=l.map fun v=>((D.filter fun d=>!decide (g.tail d=u)).filter fun d=>decide (g.tail d=v)).length+1:=by
   refine List.map_congr_left fun v hv=>?_
   congr 2
   rw[List.filter_filter]
   refine List.filter_congr fun d _=>?_
   by_cases e:g.tail d=v
   ·have:g.tail d≠u:=fun q=>hn.1 (by rw[←q,e];exact hv)
    have h2:v≠u:=fun q=>this (e.trans q)
    simp[e,h2]
   simp[e]
  have h2:=sum_darts (g:=g) (p:=p) (l:=l) (D:=D.filter fun d=>!decide (g.tail d=u)) hn.2
  have h3:(D.filter fun d=>decide (g.tail d=u)).length+(D.filter fun d=>!decide (g.tail d=u)).length=D.length:=filter_two _ D
  rw[List.map_cons,List.sum_cons,h1,List.length_cons]
  omega
theorem pot_small {g:Plain.Gr} {p:Plain.Pt} (h:p.err g=0):Plain.pot g p Plain.Dfs.zero≤10000:=by
 have hk:=Plain.Pt.ok_of_err h
 obtain⟨hz1,hz2,hz3,-⟩:=Plain.Pt.err_ok h
 obtain⟨hz4,hz5,hz6,-⟩:=Plain.Gr.err_ok hz1
 unfold Plain.pot Plain.dartsAt
 have e:(p.v.filter fun u=>decide (Plain.Dfs.zero.met u=0))=p.v:=List.filter_eq_self.2 fun _ _=>rfl
 rw[e]
 have h1:=sum_darts (g:=g) (p:=p) (D:=p.darts) hk.vn
 have h2:=Plain.darts_length p
 have h3:=rises_len hz2
 have h4:=rises_len hz3
 omega
set_option maxRecDepth 100000 in
set_option maxHeartbeats 4000000 in
theorem bfind_any (vg vp:Value) (g:Plain.Gr) (p:Plain.Pt) (w:World) (N:Nat) (hN:g.n=N) (hpe:p.err g=0) (hg:GrAt w vg g) (hp:PtAt w vp p) :
  Calls Try.prog 42 #[vg,vp] w fun e w'=>∃ k ev m F,e=.returned (.pointer (some ⟨k.pb,0,none⟩))∧k.n=N∧FinAt k g w' (Plain.findAll g p) ev m F∧m+(Plain.findAll g p).ed.length≤100000∧k.Ok∧w.heap.size≤k.w0.heap.size∧(∀ j∈k.own,w.heap.size≤j)∧Chg [] w w':=by
 have HNN:=lh hN
 have hok:=Plain.Pt.ok_of_err hpe
 obtain⟨hz1,hz2,hz3,-⟩:=Plain.Pt.err_ok hpe
 obtain⟨hz4,hz5,hz6,-⟩:=Plain.Gr.err_ok hz1
 have hN1:N≤1024:=by omega
 have hse:g.e.length≤1024:=by omega
 have hhe:∀ e∈p.e,e<g.e.length:=fun e he=>(Plain.Pt.edge_in hpe he).2
 have HPE:=lh hpe
 have HPOT:=lh (show Plain.pot g p Plain.Dfs.zero≤10000 from pot_small hpe)
 clear hN hz1 hz2 hz3 hz4 hz5 hz6 hpe
 have HG:=lh hg
 have HP:=lh hp
 obtain⟨eo,cap,rfl,hn,hm,hsm,hcell⟩:=hg
 obtain⟨v1,v2,rfl,hv,he⟩:=hp
 obtain⟨ao,ac,rfl,has,ham,hacell⟩:=hv
 obtain⟨bo,bc,rfl,hbs,hbm,hbcell⟩:=he
 have HAC:=lh hacell
 have HBC:=lh hbcell
 have HAS:=lh has
 have HBS:=lh hbs
 obtain⟨-,-,hc1⟩:=box_two w #[.int .i64 g.n,.slice eo g.e.length cap] #[.slice ao p.v.length ac,.slice bo p.e.length bc] 24 27
 have HC1:=lh hc1
 have HBXS:=lh (fun w2 h=>two_boxes w (g:=g) (p:=p) (eo:=eo) (ao:=ao) (bo:=bo) (cap:=cap) (ac:=ac) (bc:=bc) (w2:=w2) h)
 clear hcell hacell hbcell hsm has hbs hn hc1
 obtain⟨x0,x1,y0,y1,hsz⟩:=HBXS.out _ (Chg.refl _ _)
 go_enter Try.func42,Try.ntmps42
 go_wp2_with fail
 obtain⟨w1,hw1⟩:∃ w1,((w.alloc (.cells #[.int .i64 g.n,.slice eo g.e.length cap] 24)).alloc (.cells #[.slice ao p.v.length ac,.slice bo p.e.length bc] 27))=w1:=⟨_,rfl⟩
 rw[hw1] at HC1 HBXS ⊢
 clear hw1 x0 x1 y0 y1 hsz
 obtain⟨x0,x1,y0,y1,hsz⟩:=HBXS.out w1 (Chg.refl _ _)
 refine wp_region_apart (w0:=w1) [[],[],[1],[2],[],[4],[5],[],[7],[8],[],[0,3,6,9,10],[11]] [12] [6,9] (by kernel_rfl) (by kernel_rfl) (by kernel_rfl) (Chg.refl [] w1).drew ?_
 (intro fr hfr;simp only[fillL,Act.put,List.setIfInBounds_toArray,List.set_cons_zero,List.set_cons_succ,Nat.reduceAdd] at hfr;obtain rfl:=funext (fun vals=>(hfr vals).symm);clear hfr;simp only[List.dropLast,List.zip_cons_cons,List.zip_nil_right])
 refine apart_read (c:=.agg #[.int .i64 g.n,.slice eo g.e.length cap]) rfl (by rfl) (fun vals w' hG hF hA=>⟨by rfl,by have q0:=hG.cell x0 (by simp);have q1:=hG.cell x1 (by simp);go_simp⟩) ?_
 refine apart_read (c:=.pointer (some ⟨w.heap.size,0,none⟩)) rfl (by rfl) (fun vals w' hG hF hA=>⟨by rfl,by go_simp⟩) ?_
 refine apart_read (c:=.int .i64 g.n) rfl (by rfl) (fun vals w' hG hF hA=>⟨by rfl,by simp only[Facts,List.nil_append,List.cons_append,List.getD_cons_zero,List.getD_cons_succ,and_true] at hF;have q0:=hG.cell x0 (by simp);simp only[hF];go_simp⟩) ?_
 refine apart_op (fun v w=>∃ b,v=.slice (some ⟨b,0,none⟩) N N∧w.ownsRow w1.heap.size 25 1 (.slice (some ⟨b,0,none⟩) N N) N (madeCells (Value.slice none 0 0).cells (N*1)).toList) rfl (by rfl) (fun u w w' hc ⟨b,e,h⟩=>⟨b,e,owns_chg h hc (by simp)⟩) (fun vals w' hG hF hA=>⟨by rfl,fun K hK=>by
  simp only[Facts,List.nil_append,List.cons_append,List.getD_cons_zero,List.getD_cons_succ,and_true] at hF
  refine op_make elemRow _ _ rfl (B:=w1.heap.size) (n:=N) (by show vals 2=_;rw[hF,HNN.out]) (by show vals 2=_;rw[hF,HNN.out]) hG.size (by omega) fun w2 h2 hc2=>?_
  exact hK.out _ _ ⟨_,rfl,h2⟩ hc2⟩) ?_
 refine apart_read (c:=.pointer (some ⟨w.heap.size,0,none⟩)) rfl (by rfl) (fun vals w' hG hF hA=>⟨by rfl,by go_simp⟩) ?_
 refine apart_read (c:=.int .i64 g.n) rfl (by rfl) (fun vals w' hG hF hA=>⟨by rfl,by simp only[Facts,List.nil_append,List.cons_append,List.getD_cons_zero,List.getD_cons_succ,and_true] at hF;have q0:=hG.cell x0 (by simp);simp only[hF];go_simp⟩) ?_
 refine apart_new (fun v w=>∃ b,v=.slice (some ⟨b,0,none⟩) N N∧w1.heap.size≤b∧FnAt w b N fun _=>0) rfl (fun u w w' hc ⟨b,e,hb,h⟩=>⟨b,e,hb,h.chg hc (by simp)⟩) (fun vals w' hG hF hA=>⟨by rfl,fun K hK=>by
  simp only[Facts,List.nil_append,List.cons_append,List.getD_cons_zero,List.getD_cons_succ,and_true] at hF
  refine op_make elemInt _ _ rfl (B:=0) (n:=N) (by show vals 5=_;rw[hF,HNN.out]) (by show vals 5=_;rw[hF,HNN.out]) (Nat.zero_le _) (by omega) fun w2 h2 hc2=>?_
  exact hK.out _ _ ⟨_,rfl,hG.size,by unfold FnAt;rw[fn_zero];exact row_made h2 (by omega)⟩ hc2 (fun b hb=>by
   have e:w'.heap.size=b:=by simpa[Value.ownBlock] using hb
   have:=owns_lt h2 (b:=b) (by simp[Value.ownBlock,e])
   omega)⟩) ?_
 refine apart_read (c:=.pointer (some ⟨w.heap.size,0,none⟩)) rfl (by rfl) (fun vals w' hG hF hA=>⟨by rfl,by go_simp⟩) ?_
 refine apart_read (c:=.int .i64 g.n) rfl (by rfl) (fun vals w' hG hF hA=>⟨by rfl,by simp only[Facts,List.nil_append,List.cons_append,List.getD_cons_zero,List.getD_cons_succ,and_true] at hF;have q0:=hG.cell x0 (by simp);simp only[hF];go_simp⟩) ?_
 refine apart_new (fun v w=>∃ b,v=.slice (some ⟨b,0,none⟩) N N∧w1.heap.size≤b∧FnAt w b N fun _=>0) rfl (fun u w w' hc ⟨b,e,hb,h⟩=>⟨b,e,hb,h.chg hc (by simp)⟩) (fun vals w' hG hF hA=>⟨by rfl,fun K hK=>by
  simp only[Facts,List.nil_append,List.cons_append,List.getD_cons_zero,List.getD_cons_succ,and_true] at hF
  refine op_make elemInt _ _ rfl (B:=0) (n:=N) (by show vals 8=_;rw[hF,HNN.out]) (by show vals 8=_;rw[hF,HNN.out]) (Nat.zero_le _) (by omega) fun w2 h2 hc2=>?_
  exact hK.out _ _ ⟨_,rfl,hG.size,by unfold FnAt;rw[fn_zero];exact row_made h2 (by omega)⟩ hc2 (fun b hb=>by
   have e:w'.heap.size=b:=by simpa[Value.ownBlock] using hb
   have:=owns_lt h2 (b:=b) (by simp[Value.ownBlock,e])
   omega)⟩) ?_
 refine apart_op (fun v w=>∃ b,v=.map (some b)∧w1.heap.size≤b∧VMap w b 0 fun _=>none) rfl (by rfl) (fun u w w' hc ⟨b,e,hb,h⟩=>⟨b,e,hb,h.chg hc (by simp)⟩) (fun vals w' hG hF hA=>⟨by rfl,fun K hK=>by
  have hmm:=@run_makeMap Try.prog
  go_simp
  exact hK.out _ _ ⟨_,rfl,hG.size,VMap.made w'⟩ ((Chg.refl _ _).alloc _)⟩) ?_
 refine apart_op (fun v w=>∃ db mb lb mp,v=.agg #[.int .i64 g.n,.slice eo g.e.length cap,.slice (some ⟨db,0,none⟩) N N,.slice (some ⟨mb,0,none⟩) N N,.slice (some ⟨lb,0,none⟩) N N,.int .i64 0,.slice none 0 0,.map (some mp)] ∧
   w.ownsRow w1.heap.size 25 1 (.slice (some ⟨db,0,none⟩) N N) N (madeCells (Value.slice none 0 0).cells (N*1)).toList∧(w1.heap.size≤mb∧FnAt w mb N fun _=>0)∧(w1.heap.size≤lb∧FnAt w lb N fun _=>0)∧(w1.heap.size≤mp∧VMap w mp 0 fun _=>none)∧mb≠lb) rfl (by rfl)
  (fun u w w' hc ⟨db,mb,lb,mp,e,h1,h2,h3,h4,h5⟩=>⟨db,mb,lb,mp,e,owns_chg h1 hc (by simp),⟨h2.1,h2.2.chg hc (by simp)⟩,⟨h3.1,h3.2.chg hc (by simp)⟩,⟨h4.1,h4.2.chg hc (by simp)⟩,h5⟩) (fun vals w' hG hF hA=>⟨by rfl,fun K hK=>by
  simp only[Facts,List.nil_append,List.cons_append,List.getD_cons_zero,List.getD_cons_succ,and_true] at hF
  obtain⟨e0,⟨db,e3,h3⟩,⟨mb,e6,h6⟩,⟨lb,e9,h9⟩,⟨mp,e10,h10⟩⟩:=hF
  have hne:mb≠lb:=fun q=>hA 6 (by simp) 9 (by simp) (by simp) (by simp) (by simp) mb (by rw[e6];rfl) (by rw[e9,q];rfl)
  simp only[e0,e3,e6,e9,e10] at hK ⊢
  go_simp
  exact hK.out _ _ ⟨db,mb,lb,mp,rfl,h3,h6,h9,h10,hne⟩ (Chg.refl _ _)⟩) ?_
 refine apart_op (fun v w=>∃ pb db mb lb mp,v=.pointer (some ⟨pb,0,none⟩)∧w1.heap.size≤pb∧w.heap[pb]?=some (.cells #[.int .i64 g.n,.slice eo g.e.length cap,.slice (some ⟨db,0,none⟩) N N,.slice (some ⟨mb,0,none⟩) N N,.slice (some ⟨lb,0,none⟩) N N,.int .i64 0,.slice none 0 0,.map (some mp)] 86 (0,0)) ∧
   w.ownsRow w1.heap.size 25 1 (.slice (some ⟨db,0,none⟩) N N) N (madeCells (Value.slice none 0 0).cells (N*1)).toList∧(w1.heap.size≤mb∧FnAt w mb N fun _=>0)∧(w1.heap.size≤lb∧FnAt w lb N fun _=>0)∧(w1.heap.size≤mp∧VMap w mp 0 fun _=>none)∧mb≠lb) rfl (by rfl)
  (fun u w w' hc ⟨pb,db,mb,lb,mp,e,hb,hr,h1,h2,h3,h4,h5⟩=>⟨pb,db,mb,lb,mp,e,hb,keptC hc hr,owns_chg h1 hc (by simp),⟨h2.1,h2.2.chg hc (by simp)⟩,⟨h3.1,h3.2.chg hc (by simp)⟩,⟨h4.1,h4.2.chg hc (by simp)⟩,h5⟩) (fun vals w' hG hF hA=>⟨by rfl,fun K hK=>by
  simp only[Facts,List.nil_append,List.cons_append,List.getD_cons_zero,List.getD_cons_succ,and_true] at hF
  obtain⟨db,mb,lb,mp,e,h1,h2,h3,h4,h5⟩:=hF
  simp only[e] at hK ⊢
  go_simp
  have hc:=(Chg.refl [] w').alloc (.cells #[.int .i64 g.n,.slice eo g.e.length cap,.slice (some ⟨db,0,none⟩) N N,.slice (some ⟨mb,0,none⟩) N N,.slice (some ⟨lb,0,none⟩) N N,.int .i64 0,.slice none 0 0,.map (some mp)] 86)
  exact hK.out _ _ ⟨_,db,mb,lb,mp,rfl,hG.size,box_new _ _,owns_chg h1 hc (by simp),⟨h2.1,h2.2.chg hc (by simp)⟩,⟨h3.1,h3.2.chg hc (by simp)⟩,⟨h4.1,h4.2.chg hc (by simp)⟩,h5⟩ hc⟩) ?_
 refine apart_last rfl (fun vals w2 hG hF hA=>⟨by rfl,fun K hK=>?_⟩)
 simp only[Facts,List.nil_append,List.cons_append,List.getD_cons_zero,List.getD_cons_succ,and_true] at hF
 obtain⟨pb,db,mb,lb,mp,e,hpb,hrow,hdb,⟨hmb,hmet⟩,⟨hlb,hlow⟩,⟨hmp,hmap⟩,hml⟩:=hF
 simp only[e] at hK ⊢
 go_simp
 refine hK.out _ _ ?_
 clear hK K
 have HROW:=lh hrow
 have HDB:=lh hdb
 have HMET:=lh hmet
 have HLOW:=lh hlow
 have HMAP:=lh hmap
 have HML:=lh hml
 have HG2:=lh hG
 have HDBS:=lh (show w.heap.size+2≤db from Nat.le_trans hsz (hdb.lt db rfl).1)
 obtain⟨z0,z1,y0,y1,hsz2⟩:=HBXS.out w2 hG
 clear hrow hdb hmet hlow hmap hml e hA hG x0 x1 hsz
 generalize vals 0=u0
 generalize vals 1=u1
 generalize vals 2=u2
 generalize vals 3=u3
 generalize vals 4=u4
 generalize vals 5=u5
 generalize vals 6=u6
 generalize vals 7=u7
 generalize vals 8=u8
 generalize vals 9=u9
 generalize vals 10=u10
 generalize vals 11=u11
 go_wp2_with fail
 have HZ0:=lh z0
 have HZ1:=lh z1
 have HY0:=lh y0
 have HY1:=lh y1
 have HSZ2:=lh hsz2
 clear z0 z1 y0 y1 hsz2
 go_loopw [7,8,9,28] (fun _ _ _ iv wr=>∃ i:Nat,i≤p.e.length∧iv=.int .i64 i∧∃ xs,Nest wr w1.heap.size 25 1 (.slice (some ⟨db,0,none⟩) N N) N xs ((List.range N).map fun v:Nat=>Cell.row (Plain.dartsTo g p v (2*i)))∧(∀ k b,k<xs.length→(xs.getD k undef).ownBlock=some b→w2.heap.size≤b)∧Chg [db] w2 wr) (fun _ _ _ iv _=>((p.e.length:Int) - intOf iv).toNat)
 case atStart =>
  refine⟨0,Nat.zero_le _,rfl,List.replicate N (.slice none 0 0),?_,fun k b hk hb=>?_,Chg.refl _ _⟩
  ·have h1:=nest_made HDB.out
   rw[show ((List.range N).map fun v:Nat=>Cell.row (Plain.dartsTo g p v (2*0)))=List.replicate N (.row []) by
    rw[Nat.mul_zero]
    simp only[Plain.dartsTo_zero]
    rw[List.map_const']
    simp]
   exact h1
  simp only[List.length_replicate] at hk
  simp[List.getD,hk,Value.ownBlock] at hb
 case round =>
  obtain⟨i,hi,rfl,vs,hro,hlo,hcr⟩:=hrel
  have HRO:=lh hro
  have HLO:=lh hlo
  have HCR:=lh hcr
  clear hro hlo
  have hw:∀ j,j≤w.heap.size+1→j ∉ [db]:=fun j hj q=>by
   have:=HDBS.out
   rw[List.mem_singleton] at q
   omega
  have y0r:=HCR.out.cell HY0.out (hw _ (Nat.le_refl _))
  have z1r:=HCR.out.cell HZ1.out (hw _ (Nat.le_succ _))
  by_cases h0:i=p.e.length
  ·subst h0
   have b0:decide ((p.e.length:Int)<(p.e.length:Int))=false:=decide_eq_false (by omega)
   have hpn:(w2.heap[pb]?=some (.cells #[.int .i64 g.n,.slice eo g.e.length cap,.slice (some ⟨db,0,none⟩) N N,.slice (some ⟨mb,0,none⟩) N N,.slice (some ⟨lb,0,none⟩) N N,.int .i64 0,.slice none 0 0,.map (some mp)] 86 (0,0))):=HROW.out
   have hdbk:∃ cs,w2.heap[db]?=some (.cells cs 25 (0,0)):=by
    rcases HDB.out.2 with ⟨q,_⟩ | ⟨g',c',cur,q,_,hg',_⟩
    ·cases q
    simp only[Value.slice.injEq,Option.some.injEq,Addr.mk.injEq] at q
    obtain⟨⟨rfl,-⟩,-⟩:=q
    exact⟨_,hg'⟩
   obtain⟨dcs,hdbk⟩:=hdbk
   obtain⟨mcs,hmk⟩:=HMET.out.kind
   obtain⟨lcs,hlk⟩:=HLOW.out.kind
   have npd:pb≠db:=fun q=>by rw[q,hdbk] at hpn;simp at hpn
   have nmd:mb≠db:=fun q=>by rw[q,hdbk] at hmk;simp at hmk
   have nld:lb≠db:=fun q=>by rw[q,hdbk] at hlk;simp at hlk
   have nqd:mp≠db:=fun q=>HMAP.out.ne hdbk q.symm
   have hW0:Chg [] w wr:=(HC1.out.trans HG2.out (by simp)).trans HCR.out (fun j hj=>Or.inr (by rw[List.mem_singleton] at hj;have:=HDBS.out;omega))
   have HK0:=lh (show (FK.mk wr pb mb lb mp N (.slice eo g.e.length cap) (.slice (some ⟨db,0,none⟩) N N)).Ok from⟨fun j hj=>by
    have hsz:=HCR.out.size
    have e1:=lt_of_block hpn
    have e2:=lt_of_block hmk
    have e3:=lt_of_block hlk
    have e4:=HMAP.out.lt
    simp only[FK.own,List.mem_cons,List.not_mem_nil,or_false] at hj
    rcases hj with rfl | rfl | rfl | rfl
    ·exact Nat.lt_of_lt_of_le e1 hsz
    ·exact Nat.lt_of_lt_of_le e2 hsz
    ·exact Nat.lt_of_lt_of_le e3 hsz
    exact Nat.lt_of_lt_of_le e4 hsz,HML.out⟩)
   have HOWN:=lh (show ∀ j∈[pb,mb,lb,mp],w1.heap.size≤j∧j<w2.heap.size from fun j hj=>by
    have e1:=lt_of_block hpn
    have e2:=lt_of_block hmk
    have e3:=lt_of_block hlk
    have e4:=HMAP.out.lt
    simp only[List.mem_cons,List.not_mem_nil,or_false] at hj
    rcases hj with rfl | rfl | rfl | rfl
    ·exact⟨hpb,e1⟩
    ·exact⟨hmb,e2⟩
    ·exact⟨hlb,e3⟩
    exact⟨hmp,e4⟩)
   have HH0:=lh (show (FK.mk wr pb mb lb mp N (.slice eo g.e.length cap) (.slice (some ⟨db,0,none⟩) N N)).Has g p from by
    refine⟨HNN.out,by show N≤100000;omega,by omega,hhe,HG.out.fresh hW0,fun hge b n c eb q=>?_,db,N,fun v=>vs.getD v undef,rfl,fun q=>?_,fun v (hv:v<N)=>⟨HRO.out.cell (by rw[HRO.out.cells];omega),?_,fun b n c e q=>?_⟩⟩
    ·obtain⟨eo3,cap3,e3,-,-,-,hcl⟩:=HG.out
     obtain⟨bb,boff,e4,hb0,-⟩:=hcl 0 hge
     simp only[Value.agg.injEq,Array.mk.injEq,List.cons.injEq,true_and,and_true] at e3
     rw[e3] at eb
     rw[e4] at eb
     simp only[Value.slice.injEq,Option.some.injEq] at eb
     have hlt:=World.block_lt_of_cell? w _ hb0
     have:=(HOWN.out _ q).1
     have h3:=HC1.out.size
     rw[←eb.1] at this
     have:w1.heap.size≤bb:=this
     have:bb<w.heap.size:=hlt
     omega
    ·simp only[FK.own,List.mem_cons,List.not_mem_nil,or_false] at q
     rcases q with q | q | q | q
     ·exact npd q.symm
     ·exact nmd q.symm
     ·exact nld q.symm
     exact nqd q.symm
    ·have hr:=HRO.out.row (k:=v) (l:=Plain.dartsAt g p v) (by
      rw[List.getElem?_map,List.getElem?_range hv]
      simp only[Option.map_some]
      rw[←Plain.dartsTo_all,Plain.darts_length])
     exact hr.ints
    have h1:=HLO.out v b.block (by rw[HRO.out.cells];omega) (by
     show (vs.getD v undef).ownBlock=_
     have e':vs.getD v undef=.slice (some b) n c:=e
     rw[e'];rfl)
    have h2:=(HOWN.out _ q).2
    omega)
   have hnd:∀ j,j≠db→j ∉ [db]:=fun j h q=>h (List.mem_singleton.1 q)
   have HF0:=lh (show FinAt (FK.mk wr pb mb lb mp N (.slice eo g.e.length cap) (.slice (some ⟨db,0,none⟩) N N)) g wr Plain.Dfs.zero (.slice none 0 0) 0 (fun _=>none) from
    ⟨HCR.out.heap hpn (hnd _ npd),HMET.out.chg HCR.out (hnd _ nmd),HLOW.out.chg HCR.out (hnd _ nld),rowNil _ _,HMAP.out.chg HCR.out (hnd _ nqd),⟨by simp[Plain.Dfs.zero],by simp⟩,Chg.refl _ _⟩)
   have HW0:=lh hW0
   have HSZ3:=lh (show w2.heap.size≤wr.heap.size from HCR.out.size)
   have HP0:=lh hok
   obtain⟨k,hk⟩:∃ k,FK.mk wr pb mb lb mp N (.slice eo g.e.length cap) (.slice (some ⟨db,0,none⟩) N N)=k:=⟨_,rfl⟩
   have hkp:k.pb=pb:=by rw[←hk]
   have hkn:k.n=N:=by rw[←hk]
   have hkm:k.mb=mb:=by rw[←hk]
   have hkw:k.w0=wr:=by rw[←hk]
   have hko:k.own=[pb,mb,lb,mp]:=by rw[←hk];rfl
   rw[hk] at HK0 HH0 HF0
   have z0r:=HCR.out.cell HY0.out (hw _ (Nat.le_refl _))
   have HY0R:=lh (show ∀ wx,Chg k.own wr wx→wx.cell? ⟨w.heap.size+1,0,none⟩=some (.slice ao p.v.length ac) from fun wx hx=>hx.cell z0r fun q=>by
    rw[hko] at q
    have:=(HOWN.out _ q).1
    have h3:=(HBXS.out w1 (Chg.refl _ _)).2.2.2.2
    have:w1.heap.size≤w.heap.size+1:=this
    omega)
   have HVR:=lh (show ∀ wx,Chg k.own wr wx→∀ i,i<p.v.length→∃ ab aoff,ao=some ⟨ab,aoff,none⟩∧wx.cell? ⟨ab,aoff+i,none⟩=some (.int .i64 (p.v.getD i 0)) from fun wx hx i hi=>by
    obtain⟨ab,aoff,e,hac⟩:=HAC.out (fun q=>by rw[q] at hi;simp at hi)
    have h1:=hac i hi
    refine⟨ab,aoff,e,hx.cell (hW0.cell h1 (by simp)) fun q=>?_⟩
    rw[hko] at q
    have h2:=(HOWN.out _ q).1
    have h3:=World.block_lt_of_cell? w _ h1
    have h4:=HC1.out.size
    have:ab<w.heap.size:=h3
    have:w1.heap.size≤ab:=h2
    omega)
   have z0q:=HY0R.out wr (Chg.refl _ _)
   have HKP:=lh hkp
   have HKN:=lh hkn
   have HKM:=lh hkm
   have HKW:=lh hkw
   have HKO:=lh hko
   clear hi hcr hpn hdbk hmk hlk npd nmd nld nqd hnd hW0 hk hkp hkn hkm hkw hko z0r
   go_wp2_with fail
   clear z0q
   rename World=>wi
   go_loopw [11,83] (fun _ iv wr=>∃ i:Nat,i≤p.v.length∧iv=.int .i64 i∧∃ t,Hid (t=Plain.findR g p p.v.length (p.v.take i) Plain.Dfs.zero)∧Hid (Plain.Top g p t)∧Fin k g p wr t 0) (fun _ iv _=>((p.v.length:Int) - intOf iv).toNat)
   case atStart=>exact⟨0,Nat.zero_le _,rfl,_,lh rfl,lh Plain.Top.start,_,_,_,HF0.out,by have:=HPOT.out;show 0+0+Plain.pot g p Plain.Dfs.zero+0≤100000;omega,by have:=HPOT.out;show (0:Int)+Plain.pot g p Plain.Dfs.zero≤100000;omega⟩
   case round =>
    obtain⟨i,hi,rfl,t,ht,htp,ev,m,F,hf,hm1,hm2⟩:=hrel
    have HFI:=lh hf
    have HCK:=lh (show Chg k.own wi wr by have:=hf.chg;rw[HKW.out] at this;exact this)
    have HM1:=lh hm1
    have HM2:=lh hm2
    have z0q:=HY0R.out wr HCK.out
    by_cases h0:i=p.v.length
    ·subst h0
     have b0:decide ((p.v.length:Int)<(p.v.length:Int))=false:=decide_eq_false (by omega)
     clear hf hm1 hm2 hi
     go_wp2
     go_ret
     refine⟨k,ev,m,F,(by rw[HKP.out];rfl),HKN.out,?_,?_,HK0.out,?_,fun j hj=>?_,?_⟩
     ·have h1:=HFI.out
      rw[ht.out,List.take_length] at h1
      exact h1
     ·have h1:=HM1.out
      rw[ht.out,List.take_length] at h1
      show m+(Plain.findAll g p).ed.length≤100000
      unfold Plain.findAll
      omega
     ·rw[HKW.out];exact HW0.out.size
     ·rw[HKO.out] at hj
      have h1:=(HOWN.out j hj).1
      have h2:=HC1.out.size
      omega
     refine HW0.out.trans HCK.out fun j hj=>Or.inr ?_
     rw[HKO.out] at hj
     have h1:=(HOWN.out j hj).1
     have h2:=HC1.out.size
     omega
    have hil:i<p.v.length:=by omega
    have hji:(i:Int)<(p.v.length:Int):=by omega
    obtain⟨ab,aoff,rfl,hcv⟩:=HVR.out wr HCK.out i hil
    have hvm:p.v.getD i 0∈p.v:=Plain.getD_mem hil
    have hvr:=HP0.out.vr _ hvm
    obtain⟨v,hv⟩:∃ v:Nat,p.v.getD i 0=v:=⟨(p.v.getD i 0).toNat,by omega⟩
    rw[hv] at hcv hvm hvr
    have hvN:v<N:=by have:=hvr.2;rw[HNN.out] at this;omega
    have hvi:(v:Int)<(N:Int):=by omega
    have hTK:t.met v=0→_:=fun q=>Plain.Top.step HP0.out htp.out hvm q (n:=p.v.length) (List.length_filter_le _ _)
    have HTK:=lh hTK
    have HTN:=lh (show Plain.findR g p p.v.length (p.v.take (i+1)) Plain.Dfs.zero=if t.met v=0 then Plain.visit g p p.v.length v (-1) t else t by
     rw[List.take_succ_eq_append_getElem hil]
     unfold Plain.findR
     rw[List.foldl_append]
     have e:p.v[i]=(v:Int):=by rw[←hv];simp[List.getD,hil]
     rw[e]
     have h1:=ht.out
     unfold Plain.findR at h1
     rw[←h1]
     rfl)
    obtain⟨-,-,-,a3,-,-,-,-⟩:=hf.eight
    rw[HKP.out,HKM.out,HKN.out] at a3
    have cm:=hf.met.cell (v:=v) (by rw[HKN.out];exact hvN)
    rw[HKM.out] at cm
    obtain⟨tm,htm⟩:∃ tm,t.met (v:Int)=tm:=⟨_,rfl⟩
    have HTM:=lh htm
    rw[htm] at cm
    have HVM:=lh hvm
    clear hf hm1 hm2 hv hvm hvr hTK htm h0
    by_cases c0:tm=0
    ·have b1:(tm==0)=true:=by simp[c0]
     have hE:Plain.Ent g p t [] v (-1):=⟨htp.out.good,HVM.out,by rw[HTM.out];exact c0,Or.inl ⟨rfl,rfl⟩,by rw[htp.out.ed];simp,by rw[htp.out.ed];simp⟩
     have hV:=fvisit_any k g p HK0.out HH0.out HP0.out p.v.length t [] v (-1) 0 wr hE (List.length_filter_le _ _) ⟨ev,m,F,HFI.out,HM1.out,HM2.out⟩
     rw[HKP.out] at hV
     have HV:=lh hV
     clear hE hV
     go_wp2_with fail
     refine HV.out.mono ?_
     rintro _ w3 ⟨rfl,hv3⟩
     have HV3:=lh hv3
     clear hv3
     go_wp2
     go_roundw
     case rel =>
      have h1:=HTN.out
      rw[if_pos (by rw[HTM.out];exact c0)] at h1
      refine⟨i+1,by omega,by go_num,_,lh h1.symm,lh (HTK.out (by rw[HTM.out];exact c0)).1,HV3.out⟩
     case measure=>simp[intOf];omega
    have b1:(tm==0)=false:=by simp[c0]
    go_wp2
    go_roundw
    case rel =>
     have h1:=HTN.out
     rw[if_neg (by rw[HTM.out];exact c0),ht.out] at h1
     exact⟨i+1,by omega,by go_num,t,lh (by rw[h1];exact ht.out),htp,ev,m,F,HFI.out,HM1.out,HM2.out⟩
    case measure=>simp[intOf];omega
  have hil:i<p.e.length:=by omega
  have hji:(i:Int)<(p.e.length:Int):=by omega
  obtain⟨eb,poff,rfl,hec⟩:=HBC.out (fun q=>by rw[q] at hil;simp at hil)
  have hec0:=hec i hil
  have hel:=World.block_lt_of_cell? w _ hec0
  have hec2:=HCR.out.cell ((HC1.out.trans HG2.out (by simp)).cell hec0 (by simp)) (hw _ (Nat.le_succ_of_le (Nat.le_of_lt hel)))
  have hem:p.e.getD i 0∈p.e:=Plain.getD_mem hil
  obtain⟨en,hen⟩:∃ en:Nat,p.e.getD i 0=en:=⟨(p.e.getD i 0).toNat,by have:=hok.er _ hem;omega⟩
  rw[hen] at hec2 hem
  have henl:en<g.e.length:=by have:=hhe _ hem;omega
  obtain⟨eo2,cap2,eq2,-,-,-,hcl⟩:=HG.out
  cases eq2
  obtain⟨gb,goff,rfl,ha,hb⟩:=hcl en henl
  have hgl:=World.block_lt_of_cell? w _ ha
  have ha2:=HCR.out.cell ((HC1.out.trans HG2.out (by simp)).cell ha (by simp)) (hw _ (Nat.le_succ_of_le (Nat.le_of_lt hgl)))
  have hb2:=HCR.out.cell ((HC1.out.trans HG2.out (by simp)).cell hb (by simp)) (hw _ (Nat.le_succ_of_le (Nat.le_of_lt hgl)))
  have hends:=hok.ends _ hem
  rw[show g.at (en:Int)=g.ends en by simp[Plain.Gr.at]] at hends
  obtain⟨a,hea⟩:∃ a:Nat,(g.ends en).1=a:=⟨(g.ends en).1.toNat,by have:=(hok.vr _ hends.1).1;omega⟩
  obtain⟨b,heb⟩:∃ b:Nat,(g.ends en).2=b:=⟨(g.ends en).2.toNat,by have:=(hok.vr _ hends.2).1;omega⟩
  have haN:a<N:=by have:=(hok.vr _ hends.1).2;rw[hea,HNN.out] at this;omega
  have hbN:b<N:=by have:=(hok.vr _ hends.2).2;rw[heb,HNN.out] at this;omega
  rw[hea] at ha2
  rw[heb] at hb2
  have HEA:=lh hea
  have HEB:=lh heb
  have HEN:=lh hen
  clear hec hec0 hcl ha hb hea heb hen hends hem h0
  have heni:(en:Int)<(g.e.length:Int):=by omega
  go_wp2_with fail
  have hS0:Chg [] wr wr.drew:=(Chg.refl [] wr).drew
  refine wp_region_way (Chg [] wr) [0,1,2,3,4,5,6,7,8,9,10,11,12,13] (Way.line [0,1,2,3,4,5,6,7,8,9,10,11,12,13] .done) (by kernel_rfl) (by kernel_rfl) ?_
  simp only[Way.line]
  repeat
   first
    | (refine along_off rfl (by rfl) (by rfl) (fun _ _ _ h=>h) hS0 ?_;simp only[Act.put,Z1,Z2,Z3,Z4,Z5,Z6])
    | (refine along_read (v:=?_) rfl (by rfl) (by rfl) (fun _ _ _ h=>h) hS0 (fun w' hS'=>?_) ?_;rotate_left;(focus (have rd0:=hS'.cell z1r (by simp);have rd1:=hS'.cell ha2 (by simp);have rd2:=hS'.cell hb2 (by simp);clear hS';go_simp;try with_reducible rfl));simp only[Act.put,Z1,Z2,Z3,Z4,Z5,Z6])
    | (refine along_skip rfl (by rfl) (by rfl) hS0 ?_;simp only[Act.put,Z1,Z2,Z3,Z4,Z5,Z6])
  refine along_done ?_
  have HRO0:=lh (HRO.out.fresh hS0)
  have HLO0:=HLO
  have HCR0:=lh (HCR.out.trans hS0 (by simp))
  have hpc:=(cell_of_row w2 pb 2 _ _ _ HROW.out).trans (show _=some (Value.slice (some ⟨db,0,none⟩) N N) from rfl)
  have HPC:=lh (show ∀ wx,Chg [db] w2 wx→wx.cell? ⟨pb,2,none⟩=some (.slice (some ⟨db,0,none⟩) N N) from fun wx hx=>hx.cell hpc fun q=>by
   rw[List.mem_singleton] at q
   have q:pb=db:=q
   rcases HDB.out.2 with ⟨q2,_⟩ | ⟨g',c',cur,q2,_,hg',_⟩
   ·cases q2
   simp only[Value.slice.injEq,Option.some.injEq,Addr.mk.injEq] at q2
   obtain⟨⟨rfl,-⟩,-⟩:=q2
   have h1:=HROW.out
   rw[q,hg'] at h1
   simp at h1)
  have HPR:=lh (show ∀ wx,Chg [db] w2 wx→wx.heap[pb]?=some (.cells #[.int .i64 g.n,.slice (some ⟨gb,goff,none⟩) g.e.length cap,.slice (some ⟨db,0,none⟩) N N,.slice (some ⟨mb,0,none⟩) N N,.slice (some ⟨lb,0,none⟩) N N,.int .i64 0,.slice none 0 0,.map (some mp)] 86 (0,0)) from fun wx hx=>hx.heap HROW.out fun q=>by
   rw[List.mem_singleton] at q
   rcases HDB.out.2 with ⟨q2,_⟩ | ⟨g',c',cur,q2,_,hg',_⟩
   ·cases q2
   simp only[Value.slice.injEq,Option.some.injEq,Addr.mk.injEq] at q2
   obtain⟨⟨rfl,-⟩,-⟩:=q2
   have h1:=HROW.out
   rw[q,hg'] at h1
   simp at h1)
  have hdl:p.darts.length=2*p.e.length:=Plain.darts_length p
  have HD0:=lh (show p.darts.getD (2*i) 0=2*(en:Int) by have:=Plain.darts_getD hil 0 (by omega);rw[HEN.out] at this;simpa using this)
  have HD1:=lh (show p.darts.getD (2*i+1) 0=2*(en:Int)+1 by have:=Plain.darts_getD hil 1 (by omega);rw[HEN.out] at this;simpa using this)
  have HT0:=lh (show g.tail (2*(en:Int))=a by rw[←HEA.out];have:=(dart_even g en).1;simpa using this)
  have HT1:=lh (show g.tail (2*(en:Int)+1)=b by rw[←HEB.out];have:=(dart_odd g en).1;simpa using this)
  have HLEN:=lh (show p.e.length≤1024 by have:=rises_len (Plain.Pt.err_ok HPE.out).2.2.1;omega)
  have HDL:=lh hdl
  clear hS0 z1r ha2 hb2 y0r hec2 hcr hdl hpc
  generalize wr.drew=wa at *
  have ww0:IntKind.i64.wrap (2*(en:Int))=2*(en:Int):=IntWalk.i64_in _ (by omega)
  have ww1:IntKind.i64.wrap (2*(en:Int)+1)=2*(en:Int)+1:=IntWalk.i64_in _ (by omega)
  have pc:=HPC.out wa HCR0.out
  have hS0:Chg [] wa wa.drew:=(Chg.refl [] wa).drew
  have hxl0:=HRO0.out.cells
  obtain⟨va,vc,va',vc',w3,p1,p2,p3,p4,p5,p6,p7,p8,p9,p10,p11⟩:=nest_grow (q:=a) (x:=2*(en:Int)) (HRO0.out.fresh hS0) (by decide) (Nat.le_trans (HRO0.out.out.lt db rfl).1 (Nat.le_trans (Nat.le_of_lt (HRO0.out.out.lt db rfl).2) hS0.size)) (by rw[hxl0];show a<N*1;omega) (show _=some (Cell.row (Plain.dartsTo g p a (2*i))) by rw[List.getElem?_map,List.getElem?_range haN];rfl) (I64.mk (by omega) (by omega)) (by have h1:=Plain.dartsTo_len g p a (2*i);have h2:=HLEN.out;omega)
  have hln:(Plain.dartsTo g p a (2*i)).length≤2*i:=Plain.dartsTo_len g p a (2*i)
  obtain⟨ln,hlne⟩:∃ ln,(Plain.dartsTo g p a (2*i)).length=ln:=⟨_,rfl⟩
  have HP2:=lh p2
  have HLO1:=lh (low_set HLO0.out (by rw[hxl0];show a<N*1;omega) p7 p6 rfl rfl (Nat.le_trans HCR0.out.size hS0.size))
  have HCR1:=lh (show Chg [db] w2 _ from (HCR0.out.trans hS0 (by simp)).trans p8 (fun j hj=>by
   rcases List.mem_cons.1 hj with q | q
   ·exact Or.inl (by simp[q])
   refine Or.inr (HLO0.out a j (by rw[hxl0];show a<N*1;omega) ?_)
   rw[p7]
   simpa[foot] using q))
  have HRO1:=lh (show Nest _ w1.heap.size 25 1 (.slice (some ⟨db,0,none⟩) N N) N _ ((List.range N).map fun v:Nat=>Cell.row (Plain.dartsTo g p v (2*i+1))) by
   have h1:=darts_row (g:=g) (p:=p) (N:=N) (k:=2*i) (a:=a) (d:=2*(en:Int)) (by rw[HDL.out];omega) HD0.out HT0.out
   rw[←h1]
   exact p5)
  have hpbr:wa.heap[pb]?=some (.cells #[.int .i64 g.n,.slice (some ⟨gb,goff,none⟩) g.e.length cap,.slice (some ⟨db,0,none⟩) N N,.slice (some ⟨mb,0,none⟩) N N,.slice (some ⟨lb,0,none⟩) N N,.int .i64 0,.slice none 0 0,.map (some mp)] 86 (0,0)):=HPR.out _ HCR0.out
  have hpf:=p11 pb _ _ _ hpbr (by decide)
  rw[hlne] at HP2 HLO1 HCR1 HRO1 p1 p3 p9 p10 hpf
  have HC9:=lh p9
  have p1b:wa.cell? ⟨db,a,none⟩=some (.slice va ln vc):=p1
  clear p2 p5 p6 p7 p8 p9 p11 hpbr
  go_wp2_with fail
  have hS1:Chg (foot (.slice va ln vc)) wa wa.drew:=hS0.mono (by simp)
  refine wp_region_way (Chg (foot (.slice va ln vc)) wa) [0,1,2,3,4,5,6,7,8,9,10,11,12,13] (Way.line [0,1,2,3,4,5,6,7,8,9,10,11,12,13,14,15,16,17] .done) (by kernel_rfl) (by kernel_rfl) ?_
  simp only[Way.line]
  repeat
   first
    | (refine along_off rfl (by rfl) (by rfl) (fun _ _ _ h=>h) hS1 ?_;simp only[Act.put,Z1,Z2,Z3,Z4,Z5,Z6])
    | (refine along_read (v:=?_) rfl (by rfl) (by rfl) (fun _ _ _ h=>h) hS1 (fun w' hS'=>?_) ?_;rotate_left;(focus (have rd0:=hS'.cell pc (by first | exact hpf | exact p10);have rd1:=hS'.cell p1b (by first | exact hpf | exact p10);clear hS';go_simp;try with_reducible rfl));simp only[Act.put,Z1,Z2,Z3,Z4,Z5,Z6])
    | (refine along_skip rfl (by rfl) (by rfl) hS1 ?_;simp only[Act.put,Z1,Z2,Z3,Z4,Z5,Z6])
  refine along_op rfl (by rfl) (by rfl) (fun K hK=>?_)
  go_simp
  refine hK.out _ _ (fun _=>hS1.alloc _) ?_
  clear hK K
  try simp only[Act.put,Z1,Z2,Z3,Z4,Z5,Z6]
  refine along_op rfl (by rfl) (by rfl) (fun K hK=>?_)
  simp only[List.getElem_toArray,List.getElem_cons_zero,List.getElem_cons_succ]
  refine wp_apprun (.tmp 55) (.tmp 58) 25 rfl rfl rfl HP2.out ?_
  refine hK.out _ _ (fun _=>(hS0.mono (by simp)).trans HC9.out (fun j hj=>Or.inl hj)) ?_
  clear hK K
  try simp only[Act.put,List.setIfInBounds_toArray,List.set_cons_zero,List.set_cons_succ]
  refine along_op rfl (by rfl) (by rfl) (fun K hK=>?_)
  go_simp
  refine hK.out _ _ (fun h=>absurd h (Bool.eq_false_iff.1 (by kernel_rfl))) ?_
  clear hK K
  try simp only[Act.put,Z1,Z2,Z3,Z4,Z5,Z6]
  refine along_op rfl (by rfl) (by rfl) (fun K hK=>?_)
  go_simp
  refine hK.out _ _ (fun h=>absurd h (Bool.eq_false_iff.1 (by kernel_rfl))) ?_
  clear hK K
  try simp only[Act.put,Z1,Z2,Z3,Z4,Z5,Z6]
  refine along_done ?_
  generalize (w3.setCell ⟨db,a,none⟩ (.slice va' (ln+1) vc'))=wb at *
  clear p1 p1b p3 p4 p10 hpf hS1 HC9 HP2 pc hS0 hln hlne HRO0 HLO0 HCR0 hxl0
  have pc:=HPC.out wb HCR1.out
  have hS0:Chg [] wb wb.drew:=(Chg.refl [] wb).drew
  have hxl1:=HRO1.out.cells
  obtain⟨va,vc,va',vc',w3,p1,p2,p3,p4,p5,p6,p7,p8,p9,p10,p11⟩:=nest_grow (q:=b) (x:=2*(en:Int)+1) (HRO1.out.fresh hS0) (by decide) (Nat.le_trans (HRO1.out.out.lt db rfl).1 (Nat.le_trans (Nat.le_of_lt (HRO1.out.out.lt db rfl).2) hS0.size)) (by rw[hxl1];show b<N*1;omega) (show _=some (Cell.row (Plain.dartsTo g p b (2*i+1))) by rw[List.getElem?_map,List.getElem?_range hbN];rfl) (I64.mk (by omega) (by omega)) (by have h1:=Plain.dartsTo_len g p b (2*i+1);have h2:=HLEN.out;omega)
  have hln:(Plain.dartsTo g p b (2*i+1)).length≤2*i+1:=Plain.dartsTo_len g p b (2*i+1)
  obtain⟨ln,hlne⟩:∃ ln,(Plain.dartsTo g p b (2*i+1)).length=ln:=⟨_,rfl⟩
  have HP2:=lh p2
  have HLO2:=lh (low_set HLO1.out (by rw[hxl1];show b<N*1;omega) p7 p6 rfl rfl (Nat.le_trans HCR1.out.size hS0.size))
  have HCR2:=lh (show Chg [db] w2 _ from (HCR1.out.trans hS0 (by simp)).trans p8 (fun j hj=>by
   rcases List.mem_cons.1 hj with q | q
   ·exact Or.inl (by simp[q])
   refine Or.inr (HLO1.out b j (by rw[hxl1];show b<N*1;omega) ?_)
   rw[p7]
   simpa[foot] using q))
  have HRO2:=lh (show Nest _ w1.heap.size 25 1 (.slice (some ⟨db,0,none⟩) N N) N _ ((List.range N).map fun v:Nat=>Cell.row (Plain.dartsTo g p v (2*i+1+1))) by
   have h1:=darts_row (g:=g) (p:=p) (N:=N) (k:=2*i+1) (a:=b) (d:=2*(en:Int)+1) (by rw[HDL.out];omega) HD1.out HT1.out
   rw[←h1]
   exact p5)
  have hpbr:wb.heap[pb]?=some (.cells #[.int .i64 g.n,.slice (some ⟨gb,goff,none⟩) g.e.length cap,.slice (some ⟨db,0,none⟩) N N,.slice (some ⟨mb,0,none⟩) N N,.slice (some ⟨lb,0,none⟩) N N,.int .i64 0,.slice none 0 0,.map (some mp)] 86 (0,0)):=HPR.out _ HCR1.out
  have hpf:=p11 pb _ _ _ hpbr (by decide)
  rw[hlne] at HP2 HLO2 HCR2 HRO2 p1 p3 p9 p10 hpf
  have HC9:=lh p9
  have p1b:wb.cell? ⟨db,b,none⟩=some (.slice va ln vc):=p1
  clear p2 p5 p6 p7 p8 p9 p11 hpbr
  go_wp2_with fail
  have hS1:Chg (foot (.slice va ln vc)) wb wb.drew:=hS0.mono (by simp)
  refine wp_region_way (Chg (foot (.slice va ln vc)) wb) [0,1,2,3,4,5,6,7,8,9,10,11,12,13,14] (Way.line [0,1,2,3,4,5,6,7,8,9,10,11,12,13,14,15,16,17,18] .done) (by kernel_rfl) (by kernel_rfl) ?_
  simp only[Way.line]
  repeat
   first
    | (refine along_off rfl (by rfl) (by rfl) (fun _ _ _ h=>h) hS1 ?_;simp only[Act.put,Z1,Z2,Z3,Z4,Z5,Z6])
    | (refine along_read (v:=?_) rfl (by rfl) (by rfl) (fun _ _ _ h=>h) hS1 (fun w' hS'=>?_) ?_;rotate_left;(focus (have rd0:=hS'.cell pc (by first | exact hpf | exact p10);have rd1:=hS'.cell p1b (by first | exact hpf | exact p10);clear hS';go_simp;try with_reducible rfl));simp only[Act.put,Z1,Z2,Z3,Z4,Z5,Z6])
    | (refine along_skip rfl (by rfl) (by rfl) hS1 ?_;simp only[Act.put,Z1,Z2,Z3,Z4,Z5,Z6])
  refine along_op rfl (by rfl) (by rfl) (fun K hK=>?_)
  go_simp
  refine hK.out _ _ (fun _=>hS1.alloc _) ?_
  clear hK K
  try simp only[Act.put,Z1,Z2,Z3,Z4,Z5,Z6]
  refine along_op rfl (by rfl) (by rfl) (fun K hK=>?_)
  simp only[List.getElem_toArray,List.getElem_cons_zero,List.getElem_cons_succ]
  refine wp_apprun (.tmp 72) (.tmp 76) 25 rfl rfl rfl HP2.out ?_
  refine hK.out _ _ (fun _=>(hS0.mono (by simp)).trans HC9.out (fun j hj=>Or.inl hj)) ?_
  clear hK K
  try simp only[Act.put,List.setIfInBounds_toArray,List.set_cons_zero,List.set_cons_succ]
  refine along_op rfl (by rfl) (by rfl) (fun K hK=>?_)
  go_simp
  refine hK.out _ _ (fun h=>absurd h (Bool.eq_false_iff.1 (by kernel_rfl))) ?_
  clear hK K
  try simp only[Act.put,Z1,Z2,Z3,Z4,Z5,Z6]
  refine along_op rfl (by rfl) (by rfl) (fun K hK=>?_)
  go_simp
  refine hK.out _ _ (fun h=>absurd h (Bool.eq_false_iff.1 (by kernel_rfl))) ?_
  clear hK K
  try simp only[Act.put,Z1,Z2,Z3,Z4,Z5,Z6]
  refine along_done ?_
  generalize (w3.setCell ⟨db,b,none⟩ (.slice va' (ln+1) vc'))=wc at *
  clear p1 p1b p3 p4 p10 hpf hS1 HC9 HP2 pc hS0 hln hlne HRO1 HLO1 HCR1 hxl1
  go_wp2
  go_roundw
  case rel=>exact⟨i+1,by omega,by go_num,_,HRO2.out,HLO2.out,HCR2.out⟩
  case measure=>simp[intOf];omega
end Go.Proofs.Ytbkjljffnkdcjaa
namespace Go.Proofs.Ytbkjljffnkdcjaa.Plain
def scStep (on:Int→Bool) (e:Int) (s:St × (Int→Option Int)) (v:Int):St × (Int→Option Int) :=
 if on v then s else match s.2 v with
  | some f=>(s.1.join f e,s.2)
  | none=>(s.1,fun y=>if y=v then some e else s.2 y)
def scEdge (g:Gr) (on:Int→Bool) (s:St × (Int→Option Int)) (e:Int):St × (Int→Option Int):=scStep on e (scStep on e s (g.at e).1) (g.at e).2
def scJoin (g:Gr) (on:Int→Bool) (E:List Int):St × (Int→Option Int):=E.foldl (scEdge g on) (St.new E,fun _=>none)
def EndOf (g:Gr) (e v:Int):Prop:=(g.at e).1=v∨(g.at e).2=v
def Lk (g:Gr) (on:Int→Bool) (e f:Int):Prop:=∃ v,on v=false∧EndOf g e v∧EndOf g f v
structure ScI (on:Int→Bool) (E:List Int) (H:Int→Int→Prop) (s:St × (Int→Option Int)):Prop where
 ok:s.1.Ok
 all:s.1.all=(St.new E).all
 src:∀ v f,s.2 v=some f→f∈E∧H f v
 cov:∀ e v,H e v→on v=false→∃ f,s.2 v=some f∧s.1.rel f e
 least:∀ Q:Int→Int→Prop,Eqv Q→(∀ e f v,H e v→H f v→on v=false→Q e f)→∀ x y,s.1.rel x y→Q x y
theorem new_mem {l:List Int} {x:Int} (hx:x∈l):x∈(St.new l).all:=by
 unfold St.new
 have h:∀ (l:List Int) (s:St),(x∈l∨x∈s.all)→x∈(l.foldl St.put s).all:=by
  intro l
  induction l with
  | nil=>intro s h;exact h.resolve_left (by simp)
  | cons y l ih =>
   intro s h
   refine ih _ ?_
   rcases h with h | h
   ·rcases List.mem_cons.1 h with rfl | h
    ·exact Or.inr (s.mem_put x)
    exact Or.inl h
   exact Or.inr (St.mem_put_of y h)
 exact h l _ (Or.inl hx)
theorem new_all_nodup {l:List Int} (h:l.Nodup):(St.new l).all=l:=by
 unfold St.new
 have h2:∀ (l:List Int) (s:St),(s.all++l).Nodup→(l.foldl St.put s).all=s.all++l:=by
  intro l
  induction l with
  | nil=>intro s _;simp
  | cons y l ih =>
   intro s h
   have hy:y ∉ s.all:=fun q=>by
    rw[List.nodup_append] at h
    exact h.2.2 y q y (by simp) rfl
   have e:(s.put y).all=s.all++[y]:=by rw[St.put_new hy]
   rw[List.foldl_cons,ih _ (by rw[e];simpa using h),e]
   simp
 simpa using h2 l ⟨[],[]⟩ (by simpa using h)
theorem new_rel {l:List Int} {x y:Int}:(St.new l).rel x y↔x=y:=by
 unfold St.new
 have h2:∀ (l:List Int) (s:St),s.Ok→((l.foldl St.put s).rel x y↔s.rel x y):=by
  intro l
  induction l with
  | nil=>intro s _;exact Iff.rfl
  | cons z l ih=>intro s h;rw[List.foldl_cons,ih _ (h.put z),St.rel_put h]
 rw[h2 l _ St.ok_nil,St.rel_nil]
theorem ScI.start (on:Int→Bool) (E:List Int):ScI on E (fun _ _=>False) (St.new E,fun _=>none) :=
 ⟨St.new_ok E,rfl,fun v f h=>(by cases h),fun e v h=>h.elim,fun Q hQ _ x y h=>(new_rel.1 h) ▸ hQ.refl _⟩
theorem ScI.step {on:Int→Bool} {E:List Int} {H:Int→Int→Prop} {s:St × (Int→Option Int)} (h:ScI on E H s) {e v:Int} (he:e∈E):ScI on E (fun f u=>H f u∨(f=e∧u=v)) (scStep on e s v):=by
 unfold scStep
 by_cases ho:on v=true
 ·rw[if_pos ho]
  refine⟨h.ok,h.all,fun u f q=>⟨(h.src u f q).1,Or.inl (h.src u f q).2⟩,fun f u q hu=>?_,fun Q hQ hh=>h.least Q hQ fun a b c d f=>hh a b c (Or.inl d) (Or.inl f)⟩
  rcases q with q | ⟨rfl,rfl⟩
  ·exact h.cov f u q hu
  rw[ho] at hu;cases hu
 rw[if_neg ho]
 cases hv:s.2 v with
 | some f =>
  have hf:=h.src v f hv
  have fin:f∈s.1.all:=by rw[h.all];exact new_mem hf.1
  have ein:e∈s.1.all:=by rw[h.all];exact new_mem he
  have hj:=(St.join_in fin ein).1
  refine⟨h.ok.join f e,by show (s.1.join f e).all=_;rw[hj];exact h.all,fun u x q=>⟨(h.src u x q).1,Or.inl (h.src u x q).2⟩,fun x u q hu=>?_,fun Q hQ hh x y hr=>?_⟩
  ·rcases q with q | ⟨rfl,rfl⟩
   ·obtain⟨y,h1,h2⟩:=h.cov x u q hu
    exact⟨y,h1,(St.rel_join h.ok f e y x).2 (Or.inl h2)⟩
   exact⟨f,hv,St.rel_joined h.ok f x⟩
  have hb:∀ a b,s.1.rel a b→Q a b:=h.least Q hQ fun a b c d f=>hh a b c (Or.inl d) (Or.inl f)
  have hfe:Q f e:=hh f e v (Or.inl hf.2) (Or.inr ⟨rfl,rfl⟩) (Bool.eq_false_iff.2 ho)
  rcases (St.rel_join h.ok f e x y).1 hr with q | ⟨q,r⟩ | ⟨q,r⟩
  ·exact hb _ _ q
  ·exact hQ.trans (hQ.trans (hb _ _ q) hfe) (hb _ _ r)
  exact hQ.trans (hQ.trans (hb _ _ q) (hQ.symm hfe)) (hb _ _ r)
 | none =>
  refine⟨h.ok,h.all,fun u x q=>?_,fun x u q hu=>?_,fun Q hQ hh=>h.least Q hQ fun a b c d f=>hh a b c (Or.inl d) (Or.inl f)⟩
  ·simp only at q
   by_cases r:u=v
   ·rw[if_pos r] at q
    cases q
    exact⟨he,Or.inr ⟨rfl,r⟩⟩
   rw[if_neg r] at q
   exact⟨(h.src u x q).1,Or.inl (h.src u x q).2⟩
  rcases q with q | ⟨rfl,rfl⟩
  ·obtain⟨y,h1,h2⟩:=h.cov x u q hu
   have r:u≠v:=fun r=>by rw[r,hv] at h1;cases h1
   exact⟨y,by simp only[if_neg r];exact h1,h2⟩
  exact⟨x,by simp,s.1.rel_refl x⟩
theorem ScI.congr {on:Int→Bool} {E:List Int} {H K:Int→Int→Prop} {s:St × (Int→Option Int)} (h:ScI on E H s) (hk:∀ e v,H e v↔K e v):ScI on E K s:=by
 obtain rfl:H=K:=funext fun e=>funext fun v=>propext (hk e v)
 exact h
theorem ScI.fold {g:Gr} {on:Int→Bool} {E:List Int}:∀ (L:List Int) {H:Int→Int→Prop} {s:St × (Int→Option Int)},ScI on E H s→(∀ e∈L,e∈E)→ScI on E (fun e v=>H e v∨(e∈L∧EndOf g e v)) (L.foldl (scEdge g on) s)
 | [],H,s,h,_=>h.congr fun e v=>by simp
 | x :: L,H,s,h,hs=>by
  have h2:=(h.step (v:=(g.at x).1) (hs x (by simp))).step (v:=(g.at x).2) (hs x (by simp))
  refine (ScI.fold L h2 fun e he=>hs e (List.mem_cons_of_mem _ he)).congr fun e v=>?_
  unfold EndOf
  rw[List.mem_cons]
  constructor
  ·rintro (((q | ⟨rfl,rfl⟩) | ⟨rfl,rfl⟩) | ⟨q,r⟩)
   ·exact Or.inl q
   ·exact Or.inr ⟨Or.inl rfl,Or.inl rfl⟩
   ·exact Or.inr ⟨Or.inl rfl,Or.inr rfl⟩
   exact Or.inr ⟨Or.inr q,r⟩
  rintro (q | ⟨rfl | q,r⟩)
  ·exact Or.inl (Or.inl (Or.inl q))
  ·rcases r with r | r
   ·exact Or.inl (Or.inl (Or.inr ⟨rfl,r.symm⟩))
   exact Or.inl (Or.inr ⟨rfl,r.symm⟩)
  exact Or.inr ⟨q,r⟩
theorem scJoin_ok (g:Gr) (on:Int→Bool) (E:List Int):ScI on E (fun e v=>e∈E∧EndOf g e v) (scJoin g on E) :=
 (ScI.fold E (ScI.start on E) fun _ h=>h).congr fun e v=>by simp
theorem scRel_link {g:Gr} {on:Int→Bool} {E:List Int} {e f:Int} (he:e∈E) (hf:f∈E) (h:Lk g on e f):(scJoin g on E).1.rel e f:=by
 obtain⟨v,hv,h1,h2⟩:=h
 have hk:=scJoin_ok g on E
 obtain⟨x,e1,r1⟩:=hk.cov e v ⟨he,h1⟩ hv
 obtain⟨y,e2,r2⟩:=hk.cov f v ⟨hf,h2⟩ hv
 rw[e1] at e2
 cases e2
 exact St.rel_trans (St.rel_symm r1) r2
theorem scRel_least {g:Gr} {on:Int→Bool} {E:List Int} {Q:Int→Int→Prop} (hQ:Eqv Q) (h:∀ e∈E,∀ f∈E,Lk g on e f→Q e f) {x y:Int} (hr:(scJoin g on E).1.rel x y):Q x y :=
 (scJoin_ok g on E).least Q hQ (fun e f v h1 h2 hv=>h e h1.1 f h2.1 ⟨v,hv,h1.2,h2.2⟩) x y hr
theorem groups_mem {s:St} (hs:s.Ok) {l:List Int} (hl:l∈s.groups):l≠[]∧(∀ x∈l,x∈s.all)∧∀ x∈l,∀ y,y∈l↔s.rel x y:=by
 unfold St.groups St.gr St.heads at hl
 obtain⟨h,hh,rfl⟩:=List.mem_map.1 hl
 obtain⟨h1,h2⟩:=List.mem_filter.1 hh
 rw[List.mem_range] at h1
 have h2:s.hd h=h:=by simpa using h2
 have hin:∀ x,x∈s.row s.all.length h↔x∈s.all∧s.hd (s.all.idxOf x)=h:=by
  intro x
  unfold St.row
  rw[List.mem_map]
  constructor
  ·rintro ⟨i,hi,rfl⟩
   obtain⟨k1,k2⟩:=List.mem_filter.1 hi
   rw[List.mem_range] at k1
   exact⟨getD_in k1,by rw[Plain.idxOf_at hs.nodup k1];simpa using k2⟩
  rintro ⟨hx,e⟩
  have hlt:=List.idxOf_lt_length_iff.2 hx
  exact⟨s.all.idxOf x,List.mem_filter.2 ⟨List.mem_range.2 hlt,by simpa using e⟩,by simp[List.getD,hlt]⟩
 refine⟨List.ne_nil_of_mem ((hin (s.all.getD h 0)).2 ⟨getD_in h1,by rw[Plain.idxOf_at hs.nodup h1];exact h2⟩),fun x hx=>((hin x).1 hx).1,fun x hx y=>?_⟩
 obtain⟨x1,x2⟩:=(hin x).1 hx
 rw[hin y]
 unfold St.rel
 rw[St.same_iff]
 constructor
 ·rintro ⟨y1,y2⟩
  exact Or.inr ⟨x1,y1,x2.trans y2.symm⟩
 rintro (rfl | ⟨_,y1,e⟩)
 ·exact⟨x1,x2⟩
 exact⟨y1,e.symm.trans x2⟩
theorem groups_perm {s:St} (hs:s.Ok):s.groups.flatten.Perm s.all:=by
 have hrow:∀ h x,x∈s.row s.all.length h↔x∈s.all∧s.hd (s.all.idxOf x)=h:=by
  intro h x
  unfold St.row
  rw[List.mem_map]
  constructor
  ·rintro ⟨i,hi,rfl⟩
   obtain⟨k1,k2⟩:=List.mem_filter.1 hi
   rw[List.mem_range] at k1
   exact⟨getD_in k1,by rw[Plain.idxOf_at hs.nodup k1];simpa using k2⟩
  rintro ⟨hx,e⟩
  have hlt:=List.idxOf_lt_length_iff.2 hx
  exact⟨s.all.idxOf x,List.mem_filter.2 ⟨List.mem_range.2 hlt,by simpa using e⟩,by simp[List.getD,hlt]⟩
 have hn:s.groups.flatten.Nodup:=by
  unfold St.groups St.gr
  refine List.pairwise_flatten.2 ⟨fun l hl=>?_,?_⟩
  ·obtain⟨h,-,rfl⟩:=List.mem_map.1 hl
   unfold St.row
   refine List.pairwise_map.2 ((List.pairwise_iff_getElem.2 ?_))
   intro i j hi hj hij e
   have ha:=List.getElem_mem hi
   have hb:=List.getElem_mem hj
   have ha1:=List.mem_range.1 (List.mem_filter.1 ha).1
   have hb1:=List.mem_range.1 (List.mem_filter.1 hb).1
   have hnd:((List.range s.all.length).filter fun i=>s.hd i==h).Nodup:=List.nodup_range.filter _
   have e2:((List.range s.all.length).filter fun i=>s.hd i==h)[i]=((List.range s.all.length).filter fun i=>s.hd i==h)[j]:=by
    rw[←Plain.idxOf_at hs.nodup ha1,←Plain.idxOf_at hs.nodup hb1,e]
   exact (List.pairwise_iff_getElem.1 hnd i j hi hj hij) e2
  have hd:(s.heads s.all.length).Nodup:=List.nodup_range.filter _
  refine List.pairwise_map.2 (hd.imp fun {a b} hab x hxa y hxb e=>hab ?_)
  subst e
  exact ((hrow _ _).1 hxa).2.symm.trans ((hrow _ _).1 hxb).2
 refine (List.perm_ext_iff_of_nodup hn hs.nodup).2 fun x=>?_
 rw[List.mem_flatten]
 constructor
 ·rintro ⟨l,hl,hx⟩
  exact (groups_mem hs hl).2.1 x hx
 intro hx
 have hlt:=List.idxOf_lt_length_iff.2 hx
 have hg:s.all.idxOf x<s.grp.length:=by rw[←hs.len];exact hlt
 have hle:=hs.le _ hg
 refine⟨s.row s.all.length (s.hd (s.all.idxOf x)),List.mem_map.2 ⟨_,List.mem_filter.2 ⟨List.mem_range.2 (by omega),by simpa using hs.own _ hg⟩,rfl⟩,?_⟩
 exact List.mem_map.2 ⟨s.all.idxOf x,List.mem_filter.2 ⟨List.mem_range.2 hlt,by simp⟩,by simp[List.getD,hlt]⟩
theorem groups_sub {s:St} {l:List Int} (hl:l∈s.groups):l.Sublist s.all:=by
 unfold St.groups St.gr at hl
 obtain⟨h,-,rfl⟩:=List.mem_map.1 hl
 unfold St.row
 have h1:(((List.range s.all.length).filter fun i=>s.hd i==h).map fun i=>s.all.getD i 0).Sublist ((List.range s.all.length).map fun i=>s.all.getD i 0):=(List.filter_sublist).map _
 have h2:((List.range s.all.length).map fun i=>s.all.getD i 0)=s.all:=by
  refine List.ext_getElem (by simp) fun i h1 h2=>?_
  simp[List.getD,h2]
 rwa[h2] at h1
abbrev Came:=Int→Option Int
def wayIn (g:Gr) (on:Int→Bool):List Int→Came→List Int→Option Int × Came × List Int
 | [],came,q=>(none,came,q)
 | d :: ds,came,q=>match came (g.head d) with
  | some _=>wayIn g on ds came q
  | none=>if on (g.head d) then (some (g.head d),(fun y=>if y=g.head d then some d else came y),q) else wayIn g on ds (fun y=>if y=g.head d then some d else came y) (q++[g.head d])
def wayOut (g:Gr) (on:Int→Bool) (p:Pt):Nat→Came→List Int→Option Int × Came
 | 0,came,_=>(none,came)
 | _+1,came,[]=>(none,came)
 | n+1,came,u :: q=>match wayIn g on (dartsAt g p u) came q with
  | (some z,c,_)=>(some z,c)
  | (none,c,q')=>wayOut g on p n c q'
def traceR (g:Gr) (came:Came):Nat→Int→List Int
 | 0,_=>[]
 | n+1,d=>if d<0 then [] else d :: traceR g came n ((came (g.tail d)).getD 0)
inductive Trc (g:Gr) (came:Came) (a:Int):Int→List Int→Prop
 | here:Trc g came a a []
 | step {u d:Int} {l:List Int}:u≠a→came u=some d→0≤d→g.head d=u→Trc g came a (g.tail d) l→u ∉ l.map g.head→Trc g came a u (l++[d])
structure WayI (g:Gr) (on:Int→Bool) (p:Pt) (a:Int) (came:Came):Prop where
 base:came a=some (-1)
 trc:∀ u,came u≠none→∃ l,Trc g came a u l∧(∀ d∈l,d∈p.darts)∧∀ d∈l.tail,on (g.tail d)=false
theorem Trc.grow {g:Gr} {came:Came} {a:Int} {u:Int} {l:List Int} (h:Trc g came a u l) {x d:Int} (hx:came x=none):Trc g (fun y=>if y=x then some d else came y) a u l:=by
 induction h with
 | here=>exact .here
 | @step v c m h1 h2 h3 h4 _ h6 ih =>
  refine .step h1 ?_ h3 h4 ih h6
  have:v≠x:=fun e=>by rw[e,hx] at h2;cases h2
  rw[if_neg this];exact h2
theorem Trc.link {g:Gr} {came:Came} {a:Int} {u:Int} {l:List Int} (h:Trc g came a u l):Link g a l u∧(∀ d∈l,0≤d)∧(l.map g.head).Nodup∧a ∉ l.map g.head:=by
 induction h with
 | here=>exact⟨rfl,by simp,by simp,by simp⟩
 | step h1 h2 h3 h4 _ h6 ih =>
  obtain⟨i1,i2,i3,i4⟩:=ih
  refine⟨Link.append.2 ⟨_,i1,⟨rfl,h4⟩⟩,fun d hd=>?_,?_,?_⟩
  ·rcases List.mem_append.1 hd with q | q
   ·exact i2 d q
   rw[List.mem_singleton.1 q];exact h3
  ·rw[List.map_append,List.nodup_append]
   refine⟨i3,by simp,fun x hx y hy e=>?_⟩
   simp only[List.map_cons,List.map_nil,List.mem_singleton] at hy
   rw[hy,h4] at e
   exact h6 (e ▸ hx)
  rw[List.map_append,List.mem_append]
  rintro (q | q)
  ·exact i4 q
  simp only[List.map_cons,List.map_nil,List.mem_singleton] at q
  exact h1 (h4.symm.trans q.symm)
theorem Trc.met {g:Gr} {came:Came} {a:Int} {u:Int} {l:List Int} (hb:came a≠none) (h:Trc g came a u l):came u≠none∧∀ d∈l,came (g.head d)≠none∧came (g.tail d)≠none:=by
 induction h with
 | here=>exact⟨hb,by simp⟩
 | @step v c m h1 h2 h3 h4 _ h6 ih =>
  have hu:came v≠none:=by rw[h2];simp
  refine⟨hu,fun d hd=>?_⟩
  rcases List.mem_append.1 hd with q | q
  ·exact ih.2 d q
  rw[List.mem_singleton.1 q,h4];exact⟨hu,ih.1⟩
theorem Trc.back {g:Gr} {came:Came} {a:Int} {u:Int} {l:List Int} (hb:came a=some (-1)) (h:Trc g came a u l):∀ n,l.length<n→(traceR g came n ((came u).getD 0)).reverse=l:=by
 induction h with
 | here =>
  intro n hn
  match n,hn with
  | n+1,_=>rw[hb];rfl
 | step h1 h2 h3 h4 _ h6 ih =>
  intro n hn
  match n,hn with
  | n+1,hn =>
   rw[h2]
   show (if _<0 then [] else _ :: traceR g came n _).reverse=_
   rw[if_neg (by show ¬ (_:Int)<0;simp only[Option.getD_some];omega)]
   rw[List.reverse_cons,Option.getD_some,ih n (by simp at hn;omega)]
theorem WayI.start {g:Gr} {on:Int→Bool} {p:Pt} {a:Int}:WayI g on p a (fun y=>if y=a then some (-1) else none) :=
 ⟨if_pos rfl,fun u hu=>by
  by_cases e:u=a
  ·rw[e];exact⟨[],.here,by simp,by simp⟩
  simp[e] at hu⟩
theorem WayI.add {g:Gr} {on:Int→Bool} {p:Pt} {a:Int} {came:Came} (h:WayI g on p a came) {d:Int} (hd:d∈p.darts) (h0:0≤d) (hm:came (g.tail d)≠none) (ho:g.tail d=a∨on (g.tail d)=false) (hn:came (g.head d)=none):WayI g on p a (fun y=>if y=g.head d then some d else came y):=by
 have hab:came a≠none:=by rw[h.base];simp
 have hna:a≠g.head d:=fun e=>hab (by rw[e];exact hn)
 refine⟨by rw[if_neg hna];exact h.base,fun u hu=>?_⟩
 by_cases e:u=g.head d
 ·subst e
  obtain⟨l,h1,h2,h3⟩:=h.trc _ hm
  refine⟨l++[d],.step (fun e=>hna e.symm) (if_pos rfl) h0 rfl (h1.grow hn) (fun q=>?_),fun x hx=>?_,fun x hx=>?_⟩
  ·obtain⟨x,hx,e⟩:=List.mem_map.1 q
   exact ((h1.met hab).2 x hx).1 (by rw[e];exact hn)
  ·rcases List.mem_append.1 hx with q | q
   ·exact h2 x q
   rw[List.mem_singleton.1 q];exact hd
  cases l with
  | nil=>simp at hx
  | cons y l =>
   rcases List.mem_append.1 (show x∈l++[d] from hx) with q | q
   ·exact h3 x q
   rw[List.mem_singleton.1 q]
   refine ho.resolve_left fun e=>?_
   have k:=h1.link
   rw[e] at k
   -- a trace to a is empty
   obtain⟨k1,-,-,k4⟩:=k
   apply k4
   rcases List.eq_nil_or_concat (y :: l) with r | ⟨m,z,r⟩
   ·cases r
   rw[r] at k1 ⊢
   rw[List.concat_eq_append] at k1 ⊢
   have:=link_last k1
   rw[List.map_append]
   simp[this]
 obtain⟨l,h1,h2,h3⟩:=h.trc u (by rw[if_neg e] at hu;exact hu)
 exact⟨l,h1.grow hn,h2,h3⟩
structure WayO (g:Gr) (on:Int→Bool) (p:Pt) (a:Int) (came:Came) (q:List Int):Prop where
 inv:WayI g on p a came
 off:∀ u,came u≠none→u=a∨on u=false
 inq:∀ u∈q,came u≠none
 done:∀ u,came u≠none→u∈q∨∀ d∈dartsAt g p u,came (g.head d)≠none
theorem wayIn_ok {g:Gr} {on:Int→Bool} {p:Pt} {a u:Int} (hd0:∀ d∈p.darts,0≤d):∀ (ds:List Int) {came:Came} {q:List Int},(∀ d∈ds,d∈dartsAt g p u)→came u≠none→(u=a∨on u=false)→WayI g on p a came→(∀ x,came x≠none→x=a∨on x=false) →
  match wayIn g on ds came q with
  | (some z,c,_)=>WayI g on p a c∧c z≠none∧on z=true∧z≠a
  | (none,c,q')=>WayI g on p a c∧(∀ x,c x≠none→x=a∨on x=false)∧(∀ x,came x≠none→c x≠none)∧(∀ d∈ds,c (g.head d)≠none)∧(∀ x,c x≠none→came x≠none∨x∈q')∧(∀ x∈q',x∈q∨c x≠none)∧∀ x∈q,x∈q'
 | [],came,q,_,_,_,h,ho=>⟨h,ho,fun _ hx=>hx,by simp,fun x hx=>Or.inl hx,fun x hx=>Or.inl hx,fun x hx=>hx⟩
 | d :: ds,came,q,hs,hu,hua,h,ho=>by
  have hdm:=mem_dartsAt.1 (hs d (by simp))
  show match (match came (g.head d) with
   | some _=>wayIn g on ds came q
   | none=>if on (g.head d) then (some (g.head d),(fun y=>if y=g.head d then some d else came y),q) else wayIn g on ds (fun y=>if y=g.head d then some d else came y) (q++[g.head d])) with
   | (some z,c,_)=>_
   | (none,c,q')=>_
  cases hc:came (g.head d) with
  | some x =>
   have ih:=wayIn_ok (g:=g) (on:=on) (p:=p) (a:=a) (u:=u) hd0 ds (came:=came) (q:=q) (fun d hd=>hs d (List.mem_cons_of_mem _ hd)) hu hua h ho
   simp only
   revert ih
   match wayIn g on ds came q with
   | (some z,c,_)=>exact fun ih=>ih
   | (none,c,q') =>
    rintro ⟨i1,i2,i3,i4,i5,i6⟩
    refine⟨i1,i2,i3,fun e he=>?_,i5,i6⟩
    rcases List.mem_cons.1 he with rfl | he
    ·exact i3 _ (by rw[hc];simp)
    exact i4 e he
  | none =>
   have hadd:=h.add hdm.1 (hd0 d hdm.1) (by rw[hdm.2];exact hu) (by rw[hdm.2];exact hua) hc
   by_cases hon:on (g.head d)=true
   ·simp only[hon,if_true]
    refine⟨hadd,by simp,by first | exact hon | trivial,fun e=>?_⟩
    have:=h.base
    rw[←e,hc] at this
    cases this
   simp only[hon]
   have hmono:∀ x,came x≠none→(if x=g.head d then some d else came x)≠none:=fun x hx=>by
    by_cases e:x=g.head d
    ·rw[if_pos e];simp
    rw[if_neg e];exact hx
   have ih:=wayIn_ok (g:=g) (on:=on) (p:=p) (a:=a) (u:=u) hd0 ds (came:=fun y=>if y=g.head d then some d else came y) (q:=q++[g.head d]) (fun d hd=>hs d (List.mem_cons_of_mem _ hd)) (hmono u hu) hua hadd (fun x hx=>by
    by_cases e:x=g.head d
    ·rw[e];exact Or.inr (Bool.eq_false_iff.2 hon)
    simp only[if_neg e] at hx;exact ho x hx)
   revert ih
   simp only[Bool.false_eq_true,if_false]
   match wayIn g on ds (fun y=>if y=g.head d then some d else came y) (q++[g.head d]) with
   | (some z,c,_)=>exact fun ih=>ih
   | (none,c,q') =>
    rintro ⟨i1,i2,i3,i4,i5,i6,i7⟩
    refine⟨i1,i2,fun x hx=>i3 x (hmono x hx),fun e he=>?_,fun x hx=>?_,fun x hx=>?_,fun x hx=>i7 x (by simp[hx])⟩
    ·rcases List.mem_cons.1 he with rfl | he
     ·exact i3 _ (by simp)
     exact i4 e he
    ·rcases i5 x hx with r | r
     ·by_cases e:x=g.head d
      ·exact Or.inr (i7 x (by simp[e]))
      simp only[if_neg e] at r;exact Or.inl r
     exact Or.inr r
    rcases i6 x hx with r | r
    ·rcases List.mem_append.1 r with r | r
     ·exact Or.inl r
     rw[List.mem_singleton.1 r];exact Or.inr (i3 _ (by simp))
    exact Or.inr r
def unseen (l:List Int) (came:Came):Nat:=(l.filter fun u=>(came u).isNone).length
theorem unseen_put {l:List Int} {f:Came} {x c:Int} (hn:l.Nodup) (hx:x∈l) (hf:f x=none):unseen l (fun y=>if y=x then some c else f y)+1=unseen l f :=
 left_put (p:=⟨l,[]⟩) hn hx hf
theorem wayIn_len {g:Gr} {on:Int→Bool} {V:List Int} (hV:V.Nodup):∀ (ds:List Int) {came:Came} {q:List Int},(∀ d∈ds,g.head d∈V) →
  (wayIn g on ds came q).1=none→(wayIn g on ds came q).2.2.length+unseen V (wayIn g on ds came q).2.1=q.length+unseen V came
 | [],_,_,_,_=>rfl
 | d :: ds,came,q,hs,hz=>by
  unfold wayIn at hz ⊢
  cases hc:came (g.head d) with
  | some x =>
   rw[hc] at hz
   exact wayIn_len hV ds (fun d hd=>hs d (List.mem_cons_of_mem _ hd)) hz
  | none =>
   rw[hc] at hz
   by_cases hon:on (g.head d)=true
   ·simp only[hon,if_true] at hz
    cases hz
   simp only[hon,Bool.false_eq_true,if_false] at hz ⊢
   rw[wayIn_len hV ds (fun d hd=>hs d (List.mem_cons_of_mem _ hd)) hz]
   have:=unseen_put (c:=d) hV (hs d (by simp)) hc
   rw[List.length_append]
   simp only[List.length_cons,List.length_nil]
   omega
theorem wayOut_ok {g:Gr} {on:Int→Bool} {p:Pt} {a:Int} (hd0:∀ d∈p.darts,0≤d) (hV:p.v.Nodup) (hs:∀ d∈p.darts,g.head d∈p.v):∀ (n:Nat) {came:Came} {q:List Int},WayO g on p a came q→q.length+unseen p.v came<n →
  match wayOut g on p n came q with
  | (some z,c)=>WayI g on p a c∧c z≠none∧on z=true∧z≠a
  | (none,c)=>WayO g on p a c []
 | 0,_,_,_,h=>by omega
 | n+1,came,[],h,_=>h
 | n+1,came,u :: q,h,hn=>by
  unfold wayOut
  have hu:=h.inq u (by simp)
  have h1:=wayIn_ok (g:=g) (on:=on) (p:=p) (a:=a) (u:=u) hd0 (dartsAt g p u) (came:=came) (q:=q) (fun d hd=>hd) hu (h.off u hu) h.inv h.off
  have h2:=wayIn_len (g:=g) (on:=on) hV (dartsAt g p u) (came:=came) (q:=q) (fun d hd=>hs d (mem_dartsAt.1 hd).1)
  revert h1 h2
  match wayIn g on (dartsAt g p u) came q with
  | (some z,c,_)=>exact fun h1 _=>h1
  | (none,c,q') =>
   rintro ⟨i1,i2,i3,i4,i5,i6,i7⟩ h2
   have h2:=h2 rfl
   simp only at h2 ⊢
   refine wayOut_ok hd0 hV hs n ⟨i1,i2,fun x hx=>?_,fun x hx=>?_⟩ (by simp at hn;omega)
   ·rcases i6 x hx with r | r
    ·exact i3 x (h.inq x (by simp[r]))
    exact r
   rcases i5 x hx with r | r
   ·rcases h.done x r with r | r
    ·rcases List.mem_cons.1 r with r | r
     ·right;intro d hd;rw[r] at hd;exact i4 d hd
     exact Or.inl (i7 x r)
    exact Or.inr fun d hd=>i3 _ (r d hd)
   exact Or.inl r
def Hangs (g:Gr) (on:Int→Bool) (E:List Int):Prop:=∀ Q:Int→Int→Prop,Eqv Q→(∀ e∈E,∀ f∈E,Lk g on e f→Q e f)→∀ e∈E,∀ f∈E,Q e f
theorem end_dart {g:Gr} {p:Pt} {e v:Int} (he:e∈p.e) (h:EndOf g e v):∃ d∈dartsAt g p v,d / 2=e:=by
 have h0:=tail_even g e
 rcases h with h | h
 ·exact⟨2*e,mem_dartsAt.2 ⟨mem_darts.2 (by rwa[show 2*e / 2=e by omega]),by rw[h0.1,h]⟩,by omega⟩
 exact⟨twin (2*e),mem_dartsAt.2 ⟨twin_mem (mem_darts.2 (by rwa[show 2*e / 2=e by omega])),by rw[tail_twin,h0.2,h]⟩,by rw[twin_div];omega⟩
theorem dart_end (g:Gr) (d:Int):EndOf g (d / 2) (g.tail d)∧EndOf g (d / 2) (g.head d):=by
 unfold EndOf
 rcases dart_ats g d with ⟨h1,h2⟩ | ⟨h1,h2⟩
 ·exact⟨Or.inl h1.symm,Or.inr h2.symm⟩
 exact⟨Or.inr h1.symm,Or.inl h2.symm⟩
theorem end_head {g:Gr} {d v:Int} (h:EndOf g (d / 2) v):v=g.tail d∨v=g.head d:=by
 unfold EndOf at h
 rcases dart_ats g d with ⟨h1,h2⟩ | ⟨h1,h2⟩ <;> rcases h with h | h
 ·exact Or.inl (h.symm.trans h1.symm)
 ·exact Or.inr (h.symm.trans h2.symm)
 ·exact Or.inr (h.symm.trans h2.symm)
 exact Or.inl (h.symm.trans h1.symm)
theorem way_found {g:Gr} {on:Int→Bool} {p:Pt} {a z e0 e1:Int} {came:Came} (h:WayO g on p a came []) (hh:Hangs g on p.e) (h0:e0∈p.e) (ha:EndOf g e0 a) (h1:e1∈p.e) (hz:EndOf g e1 z) (hoz:on z=true) (hza:z≠a):False:=by
 have hdone:∀ u,came u≠none→∀ d∈dartsAt g p u,came (g.head d)≠none:=fun u hu=>(h.done u hu).resolve_left (by simp)
 have good:∀ e∈p.e,∀ v,EndOf g e v→came v≠none→∀ u,EndOf g e u→came u≠none:=fun e he v hv hm u hu=>by
  obtain⟨d,hd,hde⟩:=end_dart he hv
  have hdt:=(mem_dartsAt.1 hd).2
  rw[←hde] at hu
  rcases end_head hu with q | q
  ·rw[q,hdt];exact hm
  rw[q];exact hdone v hm d hd
 have hq:=hh (fun e f=>(∀ u,EndOf g e u→came u≠none)↔∀ u,EndOf g f u→came u≠none) ⟨fun _=>Iff.rfl,fun q=>q.symm,fun q r=>q.trans r⟩ (fun e he f hf ⟨v,_,h1,h2⟩=>⟨fun q=>good f hf v h2 (q v h1),fun q=>good e he v h1 (q v h2)⟩) e0 h0 e1 h1
 have hb:came a≠none:=by rw[h.inv.base];simp
 have:=hq.1 (good e0 h0 a ha hb) z hz
 rcases h.off z this with q | q
 ·exact hza q
 rw[hoz] at q;cases q
structure WayS (g:Gr) (on:Int→Bool) (p:Pt) (w:List Int) (a z:Int):Prop where
 link:Link g a w z
 ne:a≠z
 oz:on z=true
 heads:(w.map g.head).Nodup
 na:a ∉ w.map g.head
 inn:∀ d∈w.tail,on (g.tail d)=false
 sub:∀ d∈w,d∈p.darts
def wayOf (g:Gr) (on:Int→Bool) (p:Pt) (a:Int):List Int :=
 match wayOut g on p (p.v.length+2) (fun y=>if y=a then some (-1) else none) [a] with
 | (some z,c)=>(traceR g c (p.v.length+2) ((c z).getD 0)).reverse
 | (none,_)=>[]
theorem way_start {g:Gr} {on:Int→Bool} {p:Pt} {a:Int}:WayO g on p a (fun y=>if y=a then some (-1) else none) [a] :=
 ⟨WayI.start,fun u hu=>Or.inl (by by_cases e:u=a;exact e;simp[e] at hu),fun u hu=>by simp[List.mem_singleton.1 hu],fun u hu=>Or.inl (by by_cases e:u=a;simp[e];simp[e] at hu)⟩
theorem way_fuel {p:Pt} {a:Int}:[a].length+unseen p.v (fun y=>if y=a then some (-1) else none)<p.v.length+2:=by
 have:=List.length_filter_le (fun u=>(if u=a then some (-1:Int) else none).isNone) p.v
 unfold unseen
 simp only[List.length_cons,List.length_nil]
 omega
theorem wayOf_ok {g:Gr} {on:Int→Bool} {p:Pt} {a z0 e0 e1:Int} (hp:PartOk g p) (hd0:∀ d∈p.darts,0≤d) (hh:Hangs g on p.e) (h0:e0∈p.e) (ha:EndOf g e0 a) (h1:e1∈p.e) (hz:EndOf g e1 z0) (hoz:on z0=true) (hza:z0≠a) :
  ∃ z,WayS g on p (wayOf g on p a) a z:=by
 have hw:=wayOut_ok (g:=g) (on:=on) (a:=a) hd0 hp.vn (fun d hd=>(hp.tail_mem hd).2) (p.v.length+2) way_start way_fuel
 unfold wayOf
 revert hw
 match wayOut g on p (p.v.length+2) (fun y=>if y=a then some (-1) else none) [a] with
 | (none,c)=>exact fun hw=>(way_found hw hh h0 ha h1 hz hoz hza).elim
 | (some z,c) =>
  rintro ⟨w1,w2,w3,w4⟩
  simp only
  obtain⟨l,l1,l2,l3⟩:=w1.trc z w2
  obtain⟨k1,k2,k3,k4⟩:=l1.link
  have hlen:l.length≤p.v.length:=by
   have:=len_le_of_sub k3 fun x hx=>by
    obtain⟨d,hd,rfl⟩:=List.mem_map.1 hx
    exact (hp.tail_mem (l2 d hd)).2
   simpa using this
  rw[l1.back w1.base _ (by omega)]
  exact⟨z,k1,fun e=>w4 e.symm,w3,k3,k4,l3,l2⟩
end Go.Proofs.Ytbkjljffnkdcjaa.Plain
