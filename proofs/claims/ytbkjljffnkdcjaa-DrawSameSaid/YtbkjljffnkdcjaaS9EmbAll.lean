/- draw.Block draws each block that has turns on a sphere. No program here. -/
import Derived.Test.YtbkjljffnkdcjaaS9Round
import Derived.Deep.Grids
namespace Go.Proofs.Ytbkjljffnkdcjaa.Plain
theorem pick_one:∀ {L:List Scrap} {k:Nat},pick L=some k→(L.getD k ⟨[],[],[]⟩).faces.length=1
 | [],_,h=>by cases h
 | c :: l,k,h=>by
  rw[pick] at h
  split at h
  ·rename_i q;cases h;exact q
  cases hq:pick l with
  | none=>rw[hq] at h;cases h
  | some m =>
   rw[hq] at h
   cases h
   have h2:=pick_one (L:=l) (k:=m) hq
   simpa using h2
theorem pick_no:∀ {L:List Scrap},pick L=none→∀ r∈L,r.faces.length≠1
 | [],_,r,hr=>by simp at hr
 | c :: l,h,r,hr=>by
  rw[pick] at h
  split at h
  ·cases h
  rename_i q
  cases hq:pick l with
  | some m=>rw[hq] at h;cases h
  | none =>
   rcases List.mem_cons.1 hr with e | e
   ·rw[e];exact q
   exact pick_no hq r e
theorem choose_best {R:List Scrap} {i:Nat} (h:choose R=some i):(R.getD i ⟨[],[],[]⟩).faces.length=1∨∀ r∈R,r.faces.length≠1:=by
 unfold choose at h
 split at h
 ·cases h
 cases h
 unfold pickAt
 rw[List.drop_zero]
 cases hq:pick R with
 | none=>exact Or.inr (pick_no hq)
 | some k=>left;simp only[Nat.zero_add];exact pick_one hq
theorem faces_ne {g:Gr} {p:Pt} {turn:List (List Int)} {F:List (List Int)} (h:Faces g p turn F) {i j:Int} (h0:0≤i) (hi:i.toNat<F.length) (h1:0≤j) (hj:j.toNat<F.length) (hne:i≠j):faceAt F i≠faceAt F j:=by
 have hn:=(List.pairwise_flatten.1 h.rings.nodup).2
 have hlt:∀ {m n:Nat} (hm:m<F.length) (hn':n<F.length),m<n→F[m]≠F[n]:=fun {m n} hm hn' hmn q=>by
  have h3:=List.pairwise_iff_getElem.1 hn m n hm hn' hmn
  have hr:=h.rings.ring F[m] (List.getElem_mem hm)
  cases hq:F[m] with
  | nil=>rw[hq] at hr;exact hr.elim
  | cons a l=>exact h3 a (by rw[hq];simp) a (by rw[←q,hq];simp) rfl
 have e1:faceAt F i=F[i.toNat]:=by unfold faceAt;simp[List.getD,hi]
 have e2:faceAt F j=F[j.toNat]:=by unfold faceAt;simp[List.getD,hj]
 rw[e1,e2]
 rcases Nat.lt_trichotomy i.toNat j.toNat with q | q | q
 ·exact hlt hi hj q
 ·omega
 exact Ne.symm (hlt hj hi q)
open Classical in
theorem emb_move {g:Gr} {b p:Pt} {s:Sk} {turn:List (List Int)} {a:List Int→Int} {i:Nat} (h:SkOk g b s p turn) (hE:Emb g s a) (hi:i<s.rest.length) (hch:choose s.rest=some i) :
  ∃ a',Emb g s a'∧a' (s.rest.getD i ⟨[],[],[]⟩).edges=(s.rest.getD i ⟨[],[],[]⟩).faces.getD 0 0:=by
 have hbest:=choose_best hch
 obtain⟨hsp,-⟩:=getD_split hi (⟨[],[],[]⟩:Scrap)
 generalize hc0:s.rest.getD i ⟨[],[],[]⟩=c at *
 have hcm:c∈s.rest:=by rw[hsp];simp
 have hc:=h.scr c hcm
 have hasIff:∀ (F:List Int) (v:Int),hasV g F v=true↔v∈F.map g.tail:=fun F v=>by
  rw[hasV_iff,List.mem_map]
 have inF:∀ r∈s.rest,∀ j,j∈r.faces↔0≤j∧j.toNat<s.faces.length∧∀ v∈r.ends,v∈(faceAt s.faces j).map g.tail:=fun r hr j=>by
  rw[(h.scr r hr).fcs j]
  simp only[hasIff]
 have haF:∀ r∈s.rest,a r.edges∈r.faces:=fun r hr=>(inF r hr _).2 (hE.pos r hr)
 rcases hbest with hb | hb
 ·refine⟨a,hE,?_⟩
  have:=haF c hcm
  match hq:c.faces with
  | []=>rw[hq] at hb;simp at hb
  | [f] =>
   rw[hq] at this
   rw[List.mem_singleton.1 this];rfl
  | f :: f2 :: l=>rw[hq] at hb;simp at hb
 have hne0:∀ r∈s.rest,∀ j,∃ k∈r.faces,k≠j:=fun r hr j=>by
  have hn:=(h.scr r hr).fnd
  have h1:=hb r hr
  have h2:=haF r hr
  match hq:r.faces with
  | []=>rw[hq] at h2;simp at h2
  | [_]=>rw[hq] at h1;simp at h1
  | u :: v :: l =>
   rw[hq] at hn
   by_cases e:u=j
   ·exact⟨v,by simp,fun q=>by rw[e,q] at hn;simp at hn⟩
   exact⟨u,by simp,e⟩
 obtain⟨f,fl,hcf⟩:∃ f fl,c.faces=f :: fl:=by
  cases hL:c.faces with
  | nil=>have:=haF c hcm;rw[hL] at this;simp at this
  | cons f fl=>exact⟨f,fl,rfl⟩
 have hff:c.faces.getD 0 0=f:=by rw[hcf];rfl
 rw[hff]
 have hfc:f∈c.faces:=by rw[hcf];simp
 by_cases hgf:a c.edges=f
 ·exact⟨a,hE,hgf⟩
 generalize hgg:a c.edges=k at *
 have hkc:k∈c.faces:=by rw[←hgg];exact haF c hcm
 let on0:List Int→Int→Prop:=fun E j=>0≤j∧j.toNat<s.faces.length∧∀ v∈endsOf g s.on E,v∈(faceAt s.faces j).map g.tail
 have honF:∀ r∈s.rest,∀ j,on0 r.edges j↔j∈r.faces:=fun r hr j=>by
  rw[inF r hr j,(h.scr r hr).ends]
 let Ty:List Int→Prop:=fun E=>on0 E f∧on0 E k∧∀ j,on0 E j→j=f∨j=k
 let a':List Int→Int:=fun E=>if Ty E then (if a E=f then k else f) else if E=c.edges then f else a E
 have ty:∀ r∈s.rest,Ty r.edges→f∈r.faces∧k∈r.faces∧(a r.edges=f∨a r.edges=k):=fun r hr ⟨q1,q2,q3⟩=>⟨(honF r hr f).1 q1,(honF r hr k).1 q2,q3 _ ((honF r hr _).2 (haF r hr))⟩
 have nty:∀ r∈s.rest,¬ Ty r.edges→∀ j,(j=f∨j=k)→j∈r.faces→∃ m∈r.faces,m≠f∧m≠k:=fun r hr hn j hj hjr=>Classical.byContradiction fun q=>by
  obtain⟨m,hm,hmj⟩:=hne0 r hr j
  have all:∀ m∈r.faces,m=f∨m=k:=fun m hm=>Classical.byContradiction fun t=>q ⟨m,hm,fun u=>t (Or.inl u),fun u=>t (Or.inr u)⟩
  have both:f∈r.faces∧k∈r.faces:=by
   rcases hj with rfl | rfl <;> rcases all m hm with e | e
   ·exact absurd e hmj
   ·exact⟨hjr,e ▸ hm⟩
   ·exact⟨e ▸ hm,hjr⟩
   exact absurd e hmj
  exact hn ⟨(honF r hr f).2 both.1,(honF r hr k).2 both.2,fun j hj=>all j ((honF r hr j).1 hj)⟩
 have ha'F:∀ r∈s.rest,a' r.edges∈r.faces:=fun r hr=>by
  show (if _ then _ else _)∈_
  by_cases t:Ty r.edges
  ·rw[if_pos t]
   obtain⟨q1,q2,-⟩:=ty r hr t
   split
   ·exact q2
   exact q1
  rw[if_neg t]
  by_cases e:r.edges=c.edges
  ·rw[if_pos e]
   have:on0 c.edges f:=(honF c hcm f).2 hfc
   rw[←e] at this
   exact (honF r hr f).1 this
  rw[if_neg e];exact haF r hr
 -- faces that differ
 have diff:∀ r∈s.rest,∀ r2∈s.rest,∀ j∈r.faces,∀ m∈r2.faces,j≠m→faceAt s.faces j≠faceAt s.faces m:=fun r hr r2 hr2 j hj m hm hne=>by
  obtain⟨j0,j1,-⟩:=(inF r hr j).1 hj
  obtain⟨m0,m1,-⟩:=(inF r2 hr2 m).1 hm
  exact faces_ne h.faces j0 j1 m0 m1 hne
 -- three faces
 have three:∀ r∈s.rest,∀ r2∈s.rest,∀ j,j∈r.faces→∀ m∈r.faces,∀ n∈r2.faces,j≠m→j≠n→m≠n→¬ Conf ((faceAt s.faces j).map g.tail) r.ends r2.ends:=fun r hr r2 hr2 j hj m hm n hn h1 h2 h3=>by
  obtain⟨j0,j1,j2⟩:=(inF r hr j).1 hj
  obtain⟨m0,m1,m2⟩:=(inF r hr m).1 hm
  obtain⟨n0,n1,n2⟩:=(inF r2 hr2 n).1 hn
  exact no_conf h.faces (faceAt_mem j1) (faceAt_mem m1) (faceAt_mem n1) (faces_ne h.faces j0 j1 m0 m1 h1) (faces_ne h.faces j0 j1 n0 n1 h2) (faces_ne h.faces m0 m1 n0 n1 h3) j2 m2 n2
 have tn:∀ r∈s.rest,∀ r2∈s.rest,Ty r.edges→¬ Ty r2.edges→∀ j,(j=f∨j=k)→j∈r2.faces→¬ Conf ((faceAt s.faces j).map g.tail) r.ends r2.ends:=fun r hr r2 hr2 t1 t2 j hj hj2=>by
  obtain⟨q1,q2,-⟩:=ty r hr t1
  obtain⟨m,m1,m2,m3⟩:=nty r2 hr2 t2 j hj hj2
  rcases hj with rfl | rfl
  ·exact three r hr r2 hr2 j q1 k q2 m m1 (Ne.symm hgf) (Ne.symm m2) (Ne.symm m3)
  exact three r hr r2 hr2 j q2 f q1 m m1 hgf (Ne.symm m3) (Ne.symm m2)
 refine⟨a',⟨fun r hr=>(inF r hr _).1 (ha'F r hr),fun r hr r2 hr2 hne haa=>?_,hE.en⟩,?_⟩
 ·have v1:a' r.edges=if Ty r.edges then (if a r.edges=f then k else f) else if r.edges=c.edges then f else a r.edges:=rfl
  have v2:a' r2.edges=if Ty r2.edges then (if a r2.edges=f then k else f) else if r2.edges=c.edges then f else a r2.edges:=rfl
  by_cases t1:Ty r.edges <;> by_cases t2:Ty r2.edges
  .-- both change places
   obtain⟨q1,q2,q3⟩:=ty r hr t1
   obtain⟨w1,w2,w3⟩:=ty r2 hr2 t2
   rw[if_pos t1] at v1
   rw[if_pos t2] at v2
   have same:a r.edges=a r2.edges:=by
    rw[v1,v2] at haa
    rcases q3 with e1 | e1 <;> rcases w3 with e2 | e2
    ·rw[e1,e2]
    ·rw[if_pos e1,if_neg (by rw[e2];exact hgf)] at haa;exact absurd haa hgf
    ·rw[if_neg (by rw[e1];exact hgf),if_pos e2] at haa;exact absurd haa.symm hgf
    rw[e1,e2]
   have hold:=hE.conf r hr r2 hr2 hne same
   intro hcf
   have hne':a' r.edges≠a r.edges:=by
    rw[v1]
    rcases q3 with e1 | e1
    ·rw[if_pos e1,e1];exact hgf
    rw[if_neg (by rw[e1];exact hgf),e1];exact Ne.symm hgf
   obtain⟨j0,j1,j2⟩:=(inF r hr _).1 (ha'F r hr)
   obtain⟨m0,m1,m2⟩:=(inF r hr _).1 (haF r hr)
   obtain⟨n0,n1,n2⟩:=(inF r2 hr2 _).1 (haF r2 hr2)
   rw[←same] at n2
   exact hold (both_cross h.faces (faceAt_mem j1) (faceAt_mem m1) (faces_ne h.faces j0 j1 m0 m1 hne') m2 n2 hcf)
  ·rw[haa]
   refine tn r hr r2 hr2 t1 t2 _ ?_ (ha'F r2 hr2)
   rw[←haa,v1,if_pos t1]
   split
   ·exact Or.inr rfl
   exact Or.inl rfl
  ·intro q
   refine tn r2 hr2 r hr t2 t1 _ ?_ (ha'F r hr) q.symm
   rw[haa,v2,if_pos t2]
   split
   ·exact Or.inr rfl
   exact Or.inl rfl
  rw[if_neg t1] at v1
  rw[if_neg t2] at v2
  have cside:∀ r∈s.rest,∀ r2∈s.rest,¬ Ty r.edges→r.edges=c.edges→f∈r2.faces→¬ Conf ((faceAt s.faces f).map g.tail) r.ends r2.ends:=fun r hr r2 hr2 t1 e1 hf2=>by
   have hon:∀ j,j∈c.faces→j∈r.faces:=fun j hj=>by
    have:on0 c.edges j:=(honF c hcm j).2 hj
    rw[←e1] at this
    exact (honF r hr j).1 this
   obtain⟨m,m1,m2,m3⟩:=nty r hr t1 f (Or.inl rfl) (hon f hfc)
   obtain⟨n,n1,n2⟩:=hne0 r2 hr2 f
   by_cases q:k=n
   ·exact three r hr r2 hr2 f (hon f hfc) m m1 n n1 (Ne.symm m2) (Ne.symm n2) (fun w=>m3 (w.trans q.symm))
   exact three r hr r2 hr2 f (hon f hfc) k (hon k hkc) n n1 (Ne.symm hgf) (Ne.symm n2) q
  by_cases e1:r.edges=c.edges
  ·rw[if_pos e1] at v1
   rw[v1]
   exact cside r hr r2 hr2 t1 e1 (by have:=ha'F r2 hr2;rw[←haa,v1] at this;exact this)
  rw[if_neg e1] at v1
  by_cases e2:r2.edges=c.edges
  ·rw[if_pos e2] at v2
   rw[haa,v2]
   exact fun q=>cside r2 hr2 r hr t2 e2 (by have:=ha'F r hr;rw[haa,v2] at this;exact this) q.symm
  rw[if_neg e2] at v2
  rw[v1]
  exact hE.conf r hr r2 hr2 hne (by rw[←v1,haa,v2])
 show (if _ then _ else _)=_
 by_cases t:Ty c.edges
 ·rw[if_pos t,hgg,if_neg hgf]
 rw[if_neg t,if_pos rfl]
theorem link_twins {g:Gr}:∀ {w:List Int} {a z:Int},Link g a w z→Link g z (twins w) a
 | [],a,z,h=>h.symm
 | d :: w,a,z,h=>by
  have h2:Link g z (twins w) (g.head d):=link_twins h.2
  have e:twins (d :: w)=twins w++[twin d]:=by unfold twins;rw[List.map_cons,List.reverse_cons]
  rw[e]
  refine Link.append.2 ⟨g.head d,h2,?_,?_⟩
  ·rw[tail_twin]
  show g.head (twin d)=a
  rw[←tail_twin,twin_twin]
  exact h.1
theorem twins_tails {g:Gr} (w:List Int):((twins w).map g.tail).Perm (w.map g.head):=by
 unfold twins
 rw[List.map_reverse]
 refine (List.reverse_perm _).trans ?_
 rw[List.map_map]
 exact List.Perm.of_eq (List.map_congr_left fun d _=>tail_twin g d)
theorem emb_begin {g:Gr} {b:Pt} {rt:List (List Int)} (hR:Globe g b rt) (hS:SolidP g b) (h2:2≤b.e.length) (hpo:PathOk g b) :
  (∀ e∈b.e,(g.at e).1≠(g.at e).2)∧∃ p turn a,SkOk g b (beginF g b) p turn∧Emb g (beginF g b) a∧(beginF g b).left+2≤b.e.length:=by
 have hbe:=hR.pe
 have hbk:=Pt.ok_of_err hbe
 have hto:=hR.to_
 obtain⟨e0,e1,l,hl⟩:∃ e0 e1 l,b.e=e0 :: e1 :: l:=by
  match hb:b.e with
  | []=>rw[hb] at h2;simp at h2
  | [_]=>rw[hb] at h2;simp at h2
  | e0 :: e1 :: l=>exact⟨e0,e1,l,rfl⟩
 have hg0:b.e.getD 0 0=e0:=by rw[hl];rfl
 have hlo:=solid_loop hbk hS hl
 obtain⟨k1,k2,-⟩:=ring_ok hbe (by omega) hpo.1 hpo.2 (by rw[hg0];exact ring_path hbk hS hl)
 obtain⟨p,turn,hk,hlf⟩:=begin_ok hbe hS h2 hpo
 refine⟨hlo,p,turn,?_⟩
 obtain⟨C,hC⟩:∃ C,ringOf g b=C:=⟨_,rfl⟩
 rw[hC] at k1 k2
 have hfa:(beginF g b).faces=[C,twins C]:=by unfold beginF;rw[hC]
 have hon:(beginF g b).on=hasV g C:=by unfold beginF;rw[hC]
 generalize beginF g b=s at *
 have hpk:=Pt.ok_of_err hk.faces.pe
 have hall:∀ d,d∈C++twins C↔d∈p.darts:=fun d=>by
  have:=hk.faces.all.mem_iff (a:=d)
  rw[hfa] at this
  simpa using this
 have hnd:(C++twins C).Nodup:=by
  have:=hk.faces.all
  rw[hfa] at this
  have h3:([C,twins C].flatten).Nodup:=this.nodup_iff.2 (darts_nodup hpk.en)
  simpa using h3
 have hpb:∀ e∈p.e,e∈b.e:=fun e he=>hk.part.mem_iff.1 (List.mem_append_left _ he)
 have hCd:∀ d∈C,d∈b.darts:=fun d hd=>mem_darts.2 (hpb _ (mem_darts.1 ((hall d).1 (List.mem_append_left _ hd))))
 have honC:∀ d∈C,s.on (g.tail d)=true:=fun d hd=>by rw[hon,hasV_iff];exact⟨d,hd,rfl⟩
 have hen:(C.map (· / 2)).Nodup:=by
  refine List.pairwise_map.2 ((List.nodup_append.1 hnd).1.imp_of_mem fun {x y} hx hy hne e=>?_)
  have e2:y=twin x:=by
   unfold twin
   split <;> omega
  have:x∈twins C:=twins_mem.2 (by rw[←e2];exact hy)
  exact (List.nodup_append.1 hnd).2.2 x hx x this rfl
 have cC:Cycle g b s.on C:=⟨⟨_,k1⟩,k2,hen,hCd,honC⟩
 have hhp:=heads_perm k1
 have hwp:((twins C).map g.tail).Perm (C.map g.tail):=(twins_tails C).trans hhp
 have cT:Cycle g b s.on (twins C):=⟨⟨_,link_twins k1⟩,hwp.nodup_iff.2 k2,twins_div.nodup_iff.2 hen,fun d hd=>by
   have:=hCd _ (twins_mem.1 hd)
   have:=twin_mem this
   rwa[twin_twin] at this,fun d hd=>by
   have:g.tail d∈C.map g.tail:=hwp.mem_iff.1 (List.mem_map.2 ⟨d,hd,rfl⟩)
   obtain⟨d',h3,h4⟩:=List.mem_map.1 this
   rw[←h4];exact honC d' h3⟩
 obtain⟨χ,hχ⟩:=hR.col (c:=chn C) fun v hv=>by rw[deg_link hbk hto hv k1 hCd];simp
 have hχ2:Col g b rt (chn (twins C)) χ:=by rw[chn_twins];exact hχ
 have hblob:∀ c∈s.rest,Blob g b s.on c.edges:=fun c hc=>⟨(hk.scr c hc).hang,(hk.scr c hc).shut,(hk.scr c hc).sub⟩
 have hnp:∀ c∈s.rest,∀ e∈c.edges,e ∉ p.e:=fun c hc e he hp=>by
  have:=hk.part.nodup_iff.2 hbk.en
  exact (List.nodup_append.1 this).2.2 e hp e (List.mem_flatMap.2 ⟨c,hc,he⟩) rfl
 have hpC:∀ d∈C,d / 2∈p.e:=fun d hd=>mem_darts.1 ((hall d).1 (List.mem_append_left _ hd))
 have hoff:∀ c∈s.rest,∀ d∈C,d / 2 ∉ c.edges:=fun c hc d hd q=>hnp c hc _ q (hpC d hd)
 have hoff2:∀ c∈s.rest,∀ d∈twins C,d / 2 ∉ c.edges:=fun c hc d hd q=>by
  have:=hoff c hc _ (twins_mem.1 hd)
  rw[twin_div] at this
  exact this q
 have hends:∀ c∈s.rest,∀ v∈c.ends,v∈C.map g.tail:=fun c hc v hv=>by
  rw[(hk.scr c hc).ends] at hv
  have:=(mem_endsOf.1 hv).1
  rw[hon,hasV_iff] at this
  exact List.mem_map.2 this
 have hne:∀ c∈s.rest,∃ e l,c.edges=e :: l:=fun c hc=>by
  have h3:=(hk.scr c hc).two
  obtain⟨v,hv⟩:=List.exists_mem_of_length_pos (l:=c.ends) (by omega)
  rw[(hk.scr c hc).ends] at hv
  obtain⟨-,e,he,-⟩:=mem_endsOf.1 hv
  cases hq:c.edges with
  | nil=>rw[hq] at he;simp at he
  | cons e l=>exact⟨e,l,rfl⟩
 have hsplit:∀ c∈s.rest,∀ d∈s.rest,c.edges≠d.edges→∀ e∈c.edges,e ∉ d.edges:=fun c hc d hd hcd e he q=>by
  have hn:=hk.part.nodup_iff.2 hbk.en
  have hn2:=(List.nodup_append.1 hn).2.1
  have h3:=(List.pairwise_map.1 (List.pairwise_flatten.1 (show ((s.rest.map (·.edges)).flatten).Nodup from by rw[←List.flatMap_def];exact hn2)).2)
  obtain⟨i,hi,rfl⟩:=List.mem_iff_getElem.1 hc
  obtain⟨j,hj,rfl⟩:=List.mem_iff_getElem.1 hd
  rcases Nat.lt_trichotomy i j with r | r | r
  ·exact (List.pairwise_iff_getElem.1 h3 i j hi hj r) e he e q rfl
  ·subst r;exact hcd rfl
  exact (List.pairwise_iff_getElem.1 h3 j i hj hi r) e q e he rfl
 refine⟨fun E=>if χ (2*E.headD 0) then 1 else 0,hk,⟨fun c hc=>?_,fun c hc d hd hcd haa=>?_,fun f hf=>?_⟩,hlf⟩
 ·rw[hfa]
  by_cases q:χ (2*c.edges.headD 0)=true
  ·simp only[if_pos q]
   refine⟨by omega,by simp,fun v hv=>?_⟩
   show v∈(twins C).map g.tail
   exact hwp.mem_iff.2 (hends c hc v hv)
  simp only[if_neg q]
  exact⟨by omega,by simp,fun v hv=>hends c hc v hv⟩
 ·obtain⟨e,l1,he⟩:=hne c hc
  obtain⟨f,l2,hf⟩:=hne d hd
  have he':e∈c.edges:=by rw[he];simp
  have hf':f∈d.edges:=by rw[hf];simp
  rw[he,hf] at haa
  have hst:χ (2*e)=χ (2*f):=by
   revert haa
   show (if χ (2*e)=true then (1:Int) else 0)=(if χ (2*f)=true then (1:Int) else 0)→_
   cases χ (2*e) <;> cases χ (2*f) <;> simp
  have hd1:2*e∈b.darts:=mem_darts.2 (by rw[show 2*e / 2=e by omega];exact (hk.scr c hc).sub e he')
  have hd2:2*f∈b.darts:=mem_darts.2 (by rw[show 2*f / 2=f by omega];exact (hk.scr d hd).sub f hf')
  have q1:2*e / 2∈c.edges:=by rw[show 2*e / 2=e by omega];exact he'
  have q2:2*f / 2∈d.edges:=by rw[show 2*f / 2=f by omega];exact hf'
  have hend:∀ v∈endsOf g s.on c.edges,v∈C.map g.tail:=fun v hv=>hends c hc v (by rw[(hk.scr c hc).ends];exact hv)
  rw[hfa]
  rw[(hk.scr c hc).ends,(hk.scr d hd).ends]
  by_cases q:χ (2*c.edges.headD 0)=true
  ·simp only[if_pos q]
   exact same_side hR hlo cT hχ2 (hblob c hc) (hblob d hd) (hsplit c hc d hd hcd) (hoff2 c hc) (hoff2 d hd) hd1 q1 hd2 q2 hst fun v hv=>hwp.mem_iff.2 (hend v hv)
  simp only[if_neg q]
  exact same_side hR hlo cC hχ (hblob c hc) (hblob d hd) (hsplit c hc d hd hcd) (hoff c hc) (hoff d hd) hd1 q1 hd2 q2 hst hend
 rw[hfa] at hf
 rcases List.mem_cons.1 hf with r | r
 ·rw[r];exact hen
 rw[List.mem_singleton.1 r];exact twins_div.nodup_iff.2 hen
theorem emb_run {g:Gr} {b:Pt} {rt:List (List Int)} (hR:Globe g b rt) (hl:∀ e∈b.e,(g.at e).1≠(g.at e).2) (hS:SolidP g b):∀ (n:Nat) {s:Sk} {p:Pt} {turn:List (List Int)} {a:List Int→Int},SkOk g b s p turn→Emb g s a→skRun g b.v n s≠none
 | 0,s,p,turn,a,h,hE=>by simp[skRun]
 | n+1,s,p,turn,a,h,hE=>by
  by_cases hr:s.rest=[]
  ·rw[skRun_end hr];simp
  cases hch:choose s.rest with
  | none =>
   exfalso
   unfold choose at hch
   split at hch
   ·rename_i q
    unfold lost at q
    obtain⟨c,hc,hc0⟩:=List.any_eq_true.1 q
    have hc0:=of_decide_eq_true hc0
    obtain⟨p1,p2,p3⟩:=hE.pos c hc
    have:a c.edges∈c.faces:=((h.scr c hc).fcs _).2 ⟨p1,p2,fun v hv=>by
     have:=p3 v hv
     rw[hasV_iff];exact List.mem_map.1 this⟩
    rw[List.length_eq_zero_iff.1 hc0] at this
    simp at this
   cases hch
  | some i =>
   obtain⟨hi,hif⟩:=choose_some hr hch
   obtain⟨a',hE',ha'⟩:=emb_move h hE hi hch
   obtain⟨p',turn',a2,h',-,hE2⟩:=emb_put hR hl hS h hi hif hE' ha'
   rw[skRun_some hr hch]
   exact emb_run hR hl hS n h' hE2
theorem drawn_some {g:Gr} {b:Pt} {rt:List (List Int)} (hR:Globe g b rt) (hS:SolidP g b) (hpo:PathOk g b):drawnF g b≠none:=by
 unfold drawnF
 split
 ·simp
 rename_i h1
 have h0:b.e.length≠0:=fun q=>by
  obtain⟨e,l,he,-⟩:=hS.1
  rw[he] at q;simp at q
 obtain⟨hl,p,turn,a,hk,hE,-⟩:=emb_begin hR hS (by omega) hpo
 have:=emb_run hR hl hS b.e.length hk hE
 cases hq:skRun g b.v b.e.length (beginF g b) with
 | none=>exact absurd hq this
 | some s=>simp
def FlatB (g:Gr) (b:Pt):Prop:=∃ t,Globe g b t
theorem BlockR.flat {g:Gr} {b:Pt} {err:Int} {t:List (List Int)} (h:BlockR g b err t) (h0:b.err g=0) (hS:SolidP g b):err=0↔FlatB g b:=by
 rcases h with ⟨h,-⟩ | ⟨-,h,-⟩ | ⟨-,-,⟨-,hpo,hd⟩,h1,h2⟩ | ⟨-,-,h1,turn,F,hd,hF,h2⟩
 ·exact absurd h0 h
 ·exact absurd hS h
 ·exact⟨fun q=>absurd (h1.symm.trans q) (by decide),fun ⟨u,hu⟩=>absurd hd (drawn_some hu hS hpo)⟩
 exact⟨fun _=>⟨turn,hF.globe⟩,fun _=>h1⟩
structure Flp (g h:Gr) (fl:Nat→Bool):Prop where
 n:h.n=g.n
 len:h.e.length=g.e.length
 ends:∀ i,h.ends i=if fl i=true then ((g.ends i).2,(g.ends i).1) else g.ends i
variable {g h : Gr} {fl : Nat → Bool} {p : Pt}
theorem Flp.symm (k:Flp g h fl):Flp h g fl:=⟨k.n.symm,k.len.symm,fun i=>by
 rw[k.ends i]
 split <;> rfl⟩
theorem Flp.at (k:Flp g h fl) (e:Int):h.at e=if fl e.toNat=true then ((g.at e).2,(g.at e).1) else g.at e:=k.ends _
theorem Flp.gerr (k:Flp g h fl):h.err=g.err:=by
 have hok:h.okEdge=g.okEdge:=funext fun i=>by
  unfold Gr.okEdge
  rw[k.n,k.ends i]
  split
  ·simp only
   generalize decide ((g.ends i).1<0)=a
   generalize decide (g.n≤(g.ends i).1)=b
   generalize decide ((g.ends i).2<0)=c
   generalize decide (g.n≤(g.ends i).2)=d
   cases a <;> cases b <;> cases c <;> cases d <;> rfl
  rfl
 unfold Gr.err
 rw[k.n,k.len,hok]
theorem Flp.perr (k:Flp g h fl):p.err h=p.err g:=by
 have hok:p.okEdge h=p.okEdge g:=funext fun i=>by
  unfold Pt.okEdge
  rw[k.ends]
  split
  ·simp only
   rw[Bool.and_comm]
  rfl
 unfold Pt.err
 rw[k.gerr,k.n,k.len,hok]
theorem Flp.endOf (k:Flp g h fl) {e x:Int}:EndOf h e x↔EndOf g e x:=by
 unfold EndOf
 rw[k.at e]
 split
 ·simp only;exact or_comm
 rfl
theorem Flp.near (k:Flp g h fl) {u w:Int} (q:Near g p u w):Near h p u w:=by
 obtain⟨e,he,r⟩:=q
 refine⟨e,he,?_⟩
 rw[k.at e]
 split
 ·rcases r with r | r <;> rw[r]
  ·exact Or.inr rfl
  exact Or.inl rfl
 exact r
theorem Flp.come (k:Flp g h fl) {s a b:Int} (q:Come g p s a b):Come h p s a b:=by
 induction q with
 | here=>exact .here
 | step _ hn hs ih=>exact ih.step (k.near hn) hs
theorem off_come {v e x:Int} (he:e∈p.e) (hl:¬ ((g.at e).1=v∧(g.at e).2=v)) (hx:EndOf g e x) (hv:x≠v):Come g p v (off g v e) x:=by
 have ho:=off_ne hl
 by_cases q:off g v e=x
 ·rw[q];exact .here
 refine .step .here ⟨e,he,?_⟩ hv
 have h1:EndOf g e (off g v e):=off_end
 rcases h1 with r | r <;> rcases hx with s | s
 ·exact absurd (r.symm.trans s) q
 ·exact Or.inl (by rw[←r,←s])
 ·exact Or.inr (by rw[←r,←s])
 exact absurd (r.symm.trans s) q
theorem Flp.loop (k:Flp g h fl) {e v:Int}:((h.at e).1=v∧(h.at e).2=v)↔((g.at e).1=v∧(g.at e).2=v):=by
 rw[k.at e]
 split
 ·simp only;exact and_comm
 rfl
theorem Flp.apart (k:Flp g h fl) {v e f:Int} (he:e∈p.e) (hf:f∈p.e) (q:Apart h p v e f):Apart g p v e f:=by
 obtain⟨hne,q⟩:=q
 refine⟨hne,?_⟩
 rw[k.loop,k.loop] at q
 by_cases l1:(g.at e).1=v∧(g.at e).2=v
 ·exact Or.inl l1
 by_cases l2:(g.at f).1=v∧(g.at f).2=v
 ·exact Or.inr (Or.inl l2)
 refine Or.inr (Or.inr fun c=>(q.resolve_left l1).resolve_left l2 ?_)
 have l1':¬ ((h.at e).1=v∧(h.at e).2=v):=fun r=>l1 (k.loop.1 r)
 have l2':¬ ((h.at f).1=v∧(h.at f).2=v):=fun r=>l2 (k.loop.1 r)
 have c1:Come h p v (off h v e) (off g v e):=off_come he l1' (k.endOf.2 off_end) (off_ne l1)
 have c2:Come h p v (off h v f) (off g v f):=off_come hf l2' (k.endOf.2 off_end) (off_ne l2)
 exact (c1.trans (k.come c)).trans (Come.symm (off_ne l2') c2).2
def phi (fl:Nat→Bool) (d:Int):Int:=if fl (d / 2).toNat=true then twin d else d
theorem phi_div (d:Int):phi fl d / 2=d / 2:=by
 unfold phi
 split
 ·exact twin_div d
 rfl
theorem phi_phi (d:Int):phi fl (phi fl d)=d:=by
 have h1:=phi_div (fl:=fl) d
 show (if fl (phi fl d / 2).toNat=true then twin (phi fl d) else phi fl d)=d
 rw[h1]
 unfold phi
 split
 ·rw[twin_twin]
 rfl
theorem phi_twin (d:Int):phi fl (twin d)=twin (phi fl d):=by
 unfold phi
 rw[twin_div]
 split <;> rfl
theorem phi_inj {d e:Int} (q:phi fl d=phi fl e):d=e:=by rw[←phi_phi (fl:=fl) d,q,phi_phi]
theorem Flp.tail (k:Flp g h fl) (d:Int):h.tail d=g.tail (phi fl d):=by
 unfold phi
 split
 ·rename_i q
  rw[tail_twin]
  unfold Gr.tail Gr.head
  rw[k.at,if_pos q]
 rename_i q
 unfold Gr.tail
 rw[k.at,if_neg q]
theorem phi_mem {d:Int}:phi fl d∈p.darts↔d∈p.darts:=by rw[mem_darts,mem_darts,phi_div]
theorem Flp.solid (k:Flp g h fl) (q:SolidP g p):SolidP h p:=by
 obtain⟨⟨e0,l,he,hs⟩,hV⟩:=q
 refine⟨⟨e0,l,he,fun e hm v hv r=>hs e hm v hv (k.apart (by rw[he];simp) hm r)⟩,fun v hv=>?_⟩
 obtain⟨d,hd,hdv⟩:=hV v hv
 exact⟨phi fl d,phi_mem.2 hd,by rw[k.tail,phi_phi];exact hdv⟩
theorem idxOf_phi {x:Int}:∀ l:List Int,(l.map (phi fl)).idxOf (phi fl x)=l.idxOf x
 | []=>rfl
 | a :: l=>by
  rw[List.map_cons,List.idxOf_cons,List.idxOf_cons,idxOf_phi l]
  by_cases q:a=x
  ·rw[q];simp
  have b1:(a==x)=false:=by simpa using q
  have b2:(phi fl a==phi fl x)=false:=by simpa using fun r=>q (phi_inj r)
  rw[b1,b2]
theorem ahead_phi {l:List Int} {x:Int} (hx:x∈l):ahead (l.map (phi fl)) (phi fl x)=phi fl (ahead l x):=by
 unfold ahead
 rw[idxOf_phi,List.length_map]
 have hl:0<l.length:=List.length_pos_of_mem hx
 have hlt:(l.idxOf x+l.length - 1) % l.length<l.length:=Nat.mod_lt _ hl
 generalize (l.idxOf x+l.length - 1) % l.length=i at *
 simp[List.getD,hlt]
theorem turnAt_phi (rt:List (List Int)) (v:Int):turnAt (rt.map (List.map (phi fl))) v=(turnAt rt v).map (phi fl):=by
 unfold turnAt
 simp only[List.getD,List.getElem?_map]
 cases rt[v.toNat]? <;> rfl
theorem par_map (f:Int→Bool) (k:Int→Int):∀ l:List Int,par f (l.map k)=par (fun d=>f (k d)) l
 | []=>rfl
 | d :: l=>by simp only[List.map_cons,par,par_map f k l]
theorem Globe.flip {rt:List (List Int)} (k:Flp g h fl) (q:Globe g p rt):Globe h p (rt.map (List.map (phi fl))):=by
 have hp:=Pt.ok_of_err q.pe
 have hto:=q.to_
 refine⟨by rw[k.perr];exact q.pe,⟨by rw[List.length_map,k.n];exact hto.len,fun v=>?_,fun v h0 h1 d=>?_⟩,fun v hv=>?_,fun u hu v hv=>k.come (q.joined u hu v hv),fun c hev=>?_⟩
 ·rw[turnAt_phi]
  exact List.pairwise_map.2 ((hto.nodup v).imp fun hne e=>hne (phi_inj e))
 ·rw[turnAt_phi,k.tail]
  rw[k.n] at h1
  constructor
  ·intro hd
   obtain⟨c,hc,rfl⟩:=List.mem_map.1 hd
   rw[phi_phi,phi_mem]
   exact (hto.mem v h0 h1 c).1 hc
  rintro ⟨hd,hv⟩
  exact List.mem_map.2 ⟨phi fl d,(hto.mem v h0 h1 _).2 ⟨phi_mem.2 hd,hv⟩,phi_phi d⟩
 ·obtain⟨d,hd,hdv⟩:=q.full v hv
  exact⟨phi fl d,phi_mem.2 hd,by rw[k.tail,phi_phi];exact hdv⟩
 obtain⟨χ,hχ⟩:=q.col (c:=c) fun v hv=>by
  have:=hev v hv
  unfold deg at this ⊢
  rw[turnAt_phi,par_map] at this
  simp only[phi_div] at this
  exact this
 refine⟨fun d=>χ (phi fl d),fun d hd=>?_,fun d hd=>?_⟩
 ·have hd':=phi_mem (fl:=fl).2 hd
  have h1:=hχ.next _ hd'
  rw[←h1]
  show χ (phi fl (nextDart h _ d))=_
  congr 1
  unfold nextDart before
  have ht:=hp.tail_mem (twin_mem hd')
  have h2:=ahead_phi (fl:=fl) ((hto.mem _ (hp.vr _ ht.1).1 (hp.vr _ ht.1).2 _).2 ⟨twin_mem hd',rfl⟩)
  rw[←phi_twin,phi_phi] at h2
  rw[turnAt_phi,k.tail,h2,phi_phi,phi_twin]
 show χ (phi fl (twin d))=_
 rw[phi_twin,hχ.twin _ (phi_mem.2 hd),phi_div]
theorem BlockR.flip {err err2:Int} {t t2:List (List Int)} (k:Flp g h fl) (r:BlockR g p err t) (s:BlockR h p err2 t2):err2=err:=by
 by_cases h0:p.err g=0
 ·have h0':p.err h=0:=by rw[k.perr];exact h0
  by_cases hS:SolidP g p
  ·have hS':=k.solid hS
   have e1:=r.flat h0 hS
   have e2:=s.flat h0' hS'
   by_cases q:∃ rt,Globe g p rt
   ·obtain⟨rt,hr⟩:=q
    rw[e1.2 ⟨rt,hr⟩,e2.2 ⟨_,hr.flip k⟩]
   have q2:¬ ∃ rt,Globe h p rt:=fun ⟨rt,hr⟩=>q ⟨_,hr.flip k.symm⟩
   rcases r.solid h0 hS with ⟨-,a,-⟩ | ⟨-,a,-⟩
   ·rcases s.solid h0' hS' with ⟨-,b,-⟩ | ⟨-,b,-⟩
    ·rw[a,b]
    exact absurd (e2.1 b) q2
   exact absurd (e1.1 a) q
  have hS':¬ SolidP h p:=fun q=>hS (k.symm.solid q)
  rw[(r.split h0 hS).1,(s.split h0' hS').1]
 have h0':p.err h≠0:=by rw[k.perr];exact h0
 rw[(r.bad h0).1,(s.bad h0').1,k.perr]
end Go.Proofs.Ytbkjljffnkdcjaa.Plain
namespace Go.Proofs.Ytbkjljffnkdcjaa
open Go.RowKit Go.Maps
def BoolsAt (w:World) (v:Value) (l:List Bool):Prop:=∃ ao cap,v=.slice ao l.length cap∧l.length≤9223372036854775807∧(l≠[]→∃ b off,ao=some ⟨b,off,none⟩∧∀ i,i<l.length→w.cell? ⟨b,off+i,none⟩=some (.bool (l.getD i false)))
namespace Plain
def flipE (g:Gr) (f:List Bool) (k:Nat):List (Int × Int):=(List.range k).map fun i=>if f.getD i false=true then ((g.ends i).2,(g.ends i).1) else g.ends i
def flipG (g:Gr) (f:List Bool):Gr:=⟨g.n,flipE g f g.e.length⟩
theorem flipE_next (g:Gr) (f:List Bool) (k:Nat):flipE g f (k+1)=flipE g f k++[if f.getD k false=true then ((g.ends k).2,(g.ends k).1) else g.ends k]:=by
 unfold flipE
 rw[List.range_succ,List.map_append]
 rfl
theorem flipE_len (g:Gr) (f:List Bool) (k:Nat):(flipE g f k).length=k:=by simp[flipE]
theorem flipE_at (g:Gr) (f:List Bool) {k i:Nat} (hi:i<k):(flipE g f k).getD i (0,0)=if f.getD i false=true then ((g.ends i).2,(g.ends i).1) else g.ends i:=by
 unfold flipE
 rw[List.getD,List.getElem?_map,List.getElem?_range hi]
 rfl
theorem flipG_ok (g:Gr) (f:List Bool):Flp g (flipG g f) fun i=>f.getD i false:=by
 refine⟨rfl,flipE_len _ _ _,fun i=>?_⟩
 by_cases hi:i<g.e.length
 ·exact flipE_at g f hi
 have e1:g.ends i=(0,0):=by unfold Gr.ends;rw[List.getD,List.getElem?_eq_none (by omega)];rfl
 have e2:(flipG g f).ends i=(0,0):=by
  unfold Gr.ends flipG
  rw[List.getD,List.getElem?_eq_none (by rw[flipE_len];omega)];rfl
 rw[e1,e2]
 split <;> rfl
end Plain
set_option maxRecDepth 100000 in
set_option maxHeartbeats 8000000 in
theorem drawSame_any (vg vp vf:Value) (g:Plain.Gr) (p:Plain.Pt) (f:List Bool) (w:World) (hg:GrAt w vg g) (hp:PtAt w vp p) (hf:BoolsAt w vf f) :
  Calls Try.prog 3 #[vg,vp,vf] w fun e w'=>e=.returned (.bool true)∧Chg [] w w':=by
 obtain⟨fo,fc,rfl,hfm,hfc⟩:=hf
 have HFC:=lh hfc
 clear hfc
 have HG0:=lh hg
 have HG:=lh hg
 have HP:=lh hp
 obtain⟨eo,cap,rfl,hn,hm,hsm,hcell⟩:=hg
 obtain⟨v1,v2,rfl,hv,he⟩:=hp
 obtain⟨ao,ac,rfl,has,ham,hacell⟩:=hv
 obtain⟨bo,bc,rfl,hbs,hbm,hbcell⟩:=he
 have HAC:=lh hacell
 have HBC:=lh hbcell
 have HAS:=lh has
 have HBS:=lh hbs
 obtain⟨-,-,hc1⟩:=box_two w #[.int .i64 g.n,.slice eo g.e.length cap] #[.slice ao p.v.length ac,.slice bo p.e.length bc] 24 27
 have HC1:=lh hc1
 have HBXS:=lh (fun w2 h=>two_boxes w (g:=g) (p:=p) (eo:=eo) (ao:=ao) (bo:=bo) (cap:=cap) (ac:=ac) (bc:=bc) (w2:=w2) h)
 clear hcell hacell hbcell hsm has hbs hn hc1
 have HGX:=lh (show (∀ i,i<g.e.length→I64 (g.ends i).1∧I64 (g.ends i).2)∧∀ i,i<g.e.length→∃ b off,eo=some ⟨b,off,none⟩∧w.cell? ⟨b,off+i*2,none⟩=some (.int .i64 (g.ends i).1)∧w.cell? ⟨b,off+i*2+1,none⟩=some (.int .i64 (g.ends i).2) from by
  obtain⟨eo',cap',e,-,-,h1,h2⟩:=HG0.out
  simp only[Value.agg.injEq] at e
  obtain⟨rfl,-⟩:eo=eo'∧cap=cap':=by simpa using e
  exact⟨h1,h2⟩)
 have HNG:=lh (show I64 g.n from by
  obtain⟨eo',cap',-,h,-,-,-⟩:=HG0.out
  exact h)
 go_enter Try.func3,Try.ntmps3
 go_wp2_with fail
 refine (awake12_any _).mono ?_
 rintro e w2 ⟨rfl,hc2⟩
 obtain⟨x0,x1,y0,y1,hsz⟩:=HBXS.out w2 hc2
 have HC2:=lh (HC1.out.trans hc2 (by simp))
 have HC2B:=lh hc2
 clear hc2
 go_wp2_with fail
 refine (small12_any _ _ g p _ (HG.out.fresh HC2.out) (HP.out.fresh HC2.out)).mono ?_
 rintro e w3 ⟨rfl,hc3⟩
 have HC3:=lh (HC2.out.trans hc3 (by simp))
 have HC3B:=lh (HC2B.out.trans hc3 (by simp))
 clear x0 x1 y0 y1 hsz hc3
 obtain⟨x0,x1,y0,y1,hsz⟩:=HBXS.out w3 HC3B.out
 cases hb:Plain.small12 g p with
 | false =>
  clear hb
  go_wp2_with fail
  refine (awake12_any _).mono ?_
  rintro e w4 ⟨rfl,hc4⟩
  have HC4:=lh (HC3.out.trans hc4 (by simp))
  clear hc4
  go_wp2
  go_ret
  exact⟨rfl,HC4.out⟩
 | true =>
  obtain⟨b1,b2,b3⟩:=Plain.small12_is hb
  have hpv:p.v.length≤100000:=by omega
  clear hb
  by_cases hfl:f.length<g.e.length
  ·have hfi:(f.length:Int)<g.e.length:=by omega
   go_wp2_with fail
   refine (awake12_any _).mono ?_
   rintro e w4 ⟨rfl,hc4⟩
   have HC4:=lh (HC3.out.trans hc4 (by simp))
   clear hc4
   go_wp2
   go_ret
   exact⟨rfl,HC4.out⟩
  have hfi:¬ (f.length:Int)<g.e.length:=by omega
  go_wp2_with fail
  refine (block_any _ _ g p _ hpv (HG.out.fresh HC3.out) (HP.out.fresh HC3.out)).mono ?_
  rintro e w4 ⟨v4,err,t,rfl,hbr,hrows,hc4⟩
  have HBR:=lh hbr
  have HRW:=lh hrows
  have HC4:=lh (HC3.out.trans hc4 (by simp))
  have HC4B:=lh (HC3B.out.trans hc4 (by simp))
  clear x0 x1 y0 y1 hsz hc4 hbr hrows hfi
  obtain⟨x0,x1,y0,y1,hsz⟩:=HBXS.out w4 HC4B.out
  go_wp2_with fail
  refine (block_any _ _ g p _ hpv (HG.out.fresh HC4.out) (HP.out.fresh HC4.out)).mono ?_
  rintro e w5 ⟨v5,err5,t5,rfl,hbr,hrows,hc5⟩
  obtain⟨rfl,rfl⟩:=HBR.out.one hbr
  have HRW5:=lh hrows
  have HRW4:=lh (HRW.out.fresh hc5)
  have HC5:=lh (HC4.out.trans hc5 (by simp))
  have HC5B:=lh (HC4B.out.trans hc5 (by simp))
  clear x0 x1 y0 y1 hsz hc5 hbr hrows HRW
  obtain⟨x0,x1,y0,y1,hsz⟩:=HBXS.out w5 HC5B.out
  have bne:(err5 != err5)=false:=by simp
  go_wp2_with fail
  refine (refEquals_any _ _ t5 t5 _ HRW4.out HRW5.out).mono ?_
  rw[show decide (t5=t5)=true by simp]
  rintro e w6 ⟨rfl,hc6⟩
  have HC6:=lh (HC5.out.trans hc6 (by simp))
  have HC6B:=lh (HC5B.out.trans hc6 (by simp))
  clear x0 x1 y0 y1 hsz hc6 HRW4 HRW5
  obtain⟨x0,x1,y0,y1,hsz⟩:=HBXS.out w6 HC6B.out
  have HOB:=lh (heap_alloc_new w6 (.cells #[.int .i64 g.n,.slice none 0 0] 24))
  have HC7:=lh ((Chg.refl [] w6).alloc (.cells #[.int .i64 g.n,.slice none 0 0] 24))
  have HSZ7:=lh (show (w6.alloc (.cells #[.int .i64 g.n,.slice none 0 0] 24)).heap.size=w6.heap.size+1 by simp)
  obtain⟨ob,hob⟩:∃ n,w6.heap.size=n:=⟨_,rfl⟩
  rw[hob] at HOB HSZ7
  have HB6:=lh hob
  go_wp2_with fail
  clear hob
  generalize (w6.alloc (.cells #[.int .i64 g.n,.slice none 0 0] 24))=w7 at *
  go_loopw [12] (fun c wr=>∃ k:Nat,k≤g.e.length∧c=.int .i64 k∧∃ v,wr.heap[ob]?=some (.cells #[.int .i64 g.n,v] 24 (0,0))∧wr.ownsRow (ob+1) 37 2 v k (edgeCells (Plain.flipE g f k))∧Chg [ob] w7 wr) (fun c _=>g.e.length - (intOf c).toNat)
  case atStart=>exact⟨0,Nat.zero_le _,rfl,_,HOB.out,World.ownsRow_nil _ _ _ _,Chg.refl _ _⟩
  case round =>
   obtain⟨k,hk,rfl,v,hh,ho,hc⟩:=hrel
   have HH:=lh hh
   have HO:=lh ho
   have HC:=lh hc
   have HW:=lh (show Chg [] w6 wr from HC7.out.trans hc (fun j hj=>Or.inr (by have:=HB6.out;simp at hj;omega)))
   clear x0 x1 y0 y1 hsz
   obtain⟨x0,x1,y0,y1,hsz⟩:=HBXS.out wr (HC6B.out.trans HW.out (by simp))
   by_cases hlt:k<g.e.length
   ·have hki:(k:Int)<g.e.length:=by omega
    obtain⟨hI1,hI2⟩:=HGX.out.1 k hlt
    obtain⟨eb,eoff,rfl,he0,he1⟩:=HGX.out.2 k hlt
    have hebl:=World.block_lt_of_cell? w _ he0
    obtain⟨fb,foff,rfl,hff⟩:=HFC.out (by intro q;rw[q] at hfl;have h6:¬ 0<g.e.length:=hfl;omega)
    have hf1:=hff k (by omega)
    have hfbl:=World.block_lt_of_cell? w _ hf1
    have HWW:=lh (HC6.out.trans HW.out (by simp))
    have e0:=HWW.out.cell he0 (by simp)
    have e1:=HWW.out.cell he1 (by simp)
    have f1:=HWW.out.cell hf1 (by simp)
    obtain⟨ao,cp,rfl⟩:=owns_shape ho
    have c1:=(cell_of_row _ _ 1 _ _ _ hh).trans (show _=some (Value.slice ao k cp) from rfl)
    have hw6:=HC6.out.size
    have n0:∀ j,j<ob→j ∉ (Value.slice ao k cp).ownBlock.toList:=fun j hj q=>by have:=(ho.lt j (by simpa using q)).1;omega
    have n1:ob ∉ (Value.slice ao k cp).ownBlock.toList:=fun q=>by have:=(ho.lt ob (by simpa using q)).1;omega
    have n2:w.heap.size ∉ (Value.slice ao k cp).ownBlock.toList:=n0 _ (by have:=HB6.out;have:=HC6B.out.size;simp at this;omega)
    have n3:eb ∉ (Value.slice ao k cp).ownBlock.toList:=n0 _ (by have:=HB6.out;have h5:eb<w.heap.size:=hebl;omega)
    have HB1:=lh (show ob+1≤wr.heap.size from by have:=hc.size;have:=HSZ7.out;omega)
    have HNX:=lh (Plain.flipE_next g f k)
    obtain⟨x,hx⟩:∃ x,(g.ends k).1=x:=⟨_,rfl⟩
    obtain⟨y,hy⟩:∃ y,(g.ends k).2=y:=⟨_,rfl⟩
    have hpr:g.ends k=(x,y):=by rw[←hx,←hy]
    rw[hx] at e0 hI1
    rw[hy] at e1 hI2
    rw[hx,hy,hpr] at HNX
    have hSB:Chg (Value.slice ao k cp).ownBlock.toList wr wr.drew:=(Chg.refl _ wr).drew
    clear hh ho hc he0 he1 hff hf1 hx hy hpr n0 hebl hfbl
    generalize f.getD k false=b at *
    cases b with
    | true =>
     rw[if_pos rfl] at HNX
     go_wp2_with fail
     refine wp_region_way (Chg (Value.slice ao k cp).ownBlock.toList wr) [0,1,2,3,4,5,6,7,8,9,10,11,12,13,14] (Way.line [0,1,2,3,4,5,6,7,8,9,10,11,12,13,14,15,16,17,18] .done) (by kernel_rfl) (by kernel_rfl) ?_
     simp only[Way.line]
     repeat
      first
       | (refine along_off rfl (by rfl) (by rfl) (fun _ _ _ h=>h) hSB ?_;simp only[Act.put,Z1,Z2,Z3,Z4,Z5,Z6])
       | (refine along_read (v:=?_) rfl (by rfl) (by rfl) (fun _ _ _ h=>h) hSB (fun w' hS'=>?_) ?_;rotate_left;(focus (have rd0:=hS'.cell c1 (by first | exact n1 | exact n2 | exact n3);have rd1:=hS'.cell x1 (by first | exact n1 | exact n2 | exact n3);have rd2:=hS'.cell e0 (by first | exact n1 | exact n2 | exact n3);have rd3:=hS'.cell e1 (by first | exact n1 | exact n2 | exact n3);clear hS';go_simp;try with_reducible rfl));simp only[Act.put,Z1,Z2,Z3,Z4,Z5,Z6])
       | (refine along_skip rfl (by rfl) (by rfl) hSB ?_;simp only[Act.put,Z1,Z2,Z3,Z4,Z5,Z6])
     refine along_op rfl (by rfl) (by rfl) (fun K hK=>?_)
     go_simp
     refine hK.out _ _ (fun _=>hSB.alloc _) ?_
     clear hK K
     try simp only[Act.put,Z1,Z2,Z3,Z4,Z5,Z6]
     refine along_op rfl (by rfl) (by rfl) (fun K hK=>?_)
     simp only[List.getElem_toArray,List.getElem_cons_zero,List.getElem_cons_succ]
     obtain⟨g2,cap2,w9,hr9,r1,r2,r3⟩:=run_app elemEdge (w0:=wr) HO.out HB1.out (cs:=#[.int .i64 y,.int .i64 x]) rfl (by intro u hu;simp at hu;rcases hu with rfl | rfl <;> rfl) (by omega) (Or.inr rfl) _
     refine wp_apprun _ _ _ rfl rfl rfl hr9 ?_
     have hh9:=r2.heap HH.out n1
     have c9:=r2.cell c1 n1
     have g9:=free_at hh9 1
     have hset:Chg [ob] w9 (w9.setCell ⟨ob,1,none⟩ (.slice (some ⟨g2,0,none⟩) (k+1) cap2)):=(Chg.refl _ _).setCell (Or.inl (by simp)) _
     have HH9:=lh (heap_setCell_same hh9 1 (.slice (some ⟨g2,0,none⟩) (k+1) cap2))
     have HO9:=lh (owns_chg r1 hset (fun j hj=>by
      have e:g2=j:=by simpa[Value.ownBlock] using hj
      rw[List.mem_singleton,←e]
      have hk9:KindAt w9 ob 24:=⟨_,_,hh9⟩
      exact (own_kind r1 (b:=g2) rfl).ne hk9 (by decide)))
     have HC9:=lh ((HC.out.trans r2 (fun j hj=>Or.inr (by have:=(HO.out.lt j (by simpa using hj)).1;have:=HSZ7.out;omega))).trans hset (fun j hj=>Or.inl hj))
     refine hK.out _ _ (fun _=>(((Chg.refl _ wr).trans r2 (fun j hj=>Or.inl hj)))) ?_
     clear hK K hr9 r1 r2 r3 hh9 hset
     try simp only[Act.put,List.setIfInBounds_toArray,List.set_cons_zero,List.set_cons_succ]
     refine along_op rfl (by rfl) (by rfl) (fun K hK=>?_)
     go_simp
     refine hK.out _ _ (fun h=>absurd h (Bool.eq_false_iff.1 (by kernel_rfl))) ?_
     clear hK K
     try simp only[Act.put,Z1,Z2,Z3,Z4,Z5,Z6]
     refine along_op rfl (by rfl) (by rfl) (fun K hK=>?_)
     go_simp
     refine hK.out _ _ (fun h=>absurd h (Bool.eq_false_iff.1 (by kernel_rfl))) ?_
     clear hK K
     try simp only[Act.put,Z1,Z2,Z3,Z4,Z5,Z6]
     refine along_done ?_
     clear c9 g9 c1 x0 x1 y0 y1 e0 e1 hSB n1 n2 n3
     generalize (w9.setCell ⟨ob,1,none⟩ (.slice (some ⟨g2,0,none⟩) (k+1) cap2))=w10 at *
     go_wp2
     go_roundw
     case rel=>exact⟨k+1,by omega,by go_num,_,HH9.out,by rw[HNX.out,edgeCells_snoc];exact HO9.out,HC9.out⟩
     case measure=>simp[intOf];omega
    | false =>
     rw[if_neg (by simp)] at HNX
     go_wp2_with fail
     refine wp_region_way (Chg (Value.slice ao k cp).ownBlock.toList wr) [0,1,2,3,4,5,6] (Way.line [0,1,2,3,4,5,6,7,8,9,10] .done) (by kernel_rfl) (by kernel_rfl) ?_
     simp only[Way.line]
     repeat
      first
       | (refine along_off rfl (by rfl) (by rfl) (fun _ _ _ h=>h) hSB ?_;simp only[Act.put,Z1,Z2,Z3,Z4,Z5,Z6])
       | (refine along_read (v:=?_) rfl (by rfl) (by rfl) (fun _ _ _ h=>h) hSB (fun w' hS'=>?_) ?_;rotate_left;(focus (have rd0:=hS'.cell c1 (by first | exact n1 | exact n2 | exact n3);have rd1:=hS'.cell x1 (by first | exact n1 | exact n2 | exact n3);have rd2:=hS'.cell e0 (by first | exact n1 | exact n2 | exact n3);have rd3:=hS'.cell e1 (by first | exact n1 | exact n2 | exact n3);clear hS';go_simp;try with_reducible rfl));simp only[Act.put,Z1,Z2,Z3,Z4,Z5,Z6])
       | (refine along_skip rfl (by rfl) (by rfl) hSB ?_;simp only[Act.put,Z1,Z2,Z3,Z4,Z5,Z6])
     refine along_op rfl (by rfl) (by rfl) (fun K hK=>?_)
     go_simp
     refine hK.out _ _ (fun _=>hSB.alloc _) ?_
     clear hK K
     try simp only[Act.put,Z1,Z2,Z3,Z4,Z5,Z6]
     refine along_op rfl (by rfl) (by rfl) (fun K hK=>?_)
     simp only[List.getElem_toArray,List.getElem_cons_zero,List.getElem_cons_succ]
     obtain⟨g2,cap2,w9,hr9,r1,r2,r3⟩:=run_app elemEdge (w0:=wr) HO.out HB1.out (cs:=#[.int .i64 x,.int .i64 y]) rfl (by intro u hu;simp at hu;rcases hu with rfl | rfl <;> rfl) (by omega) (Or.inr rfl) _
     refine wp_apprun _ _ _ rfl rfl rfl hr9 ?_
     have hh9:=r2.heap HH.out n1
     have c9:=r2.cell c1 n1
     have g9:=free_at hh9 1
     have hset:Chg [ob] w9 (w9.setCell ⟨ob,1,none⟩ (.slice (some ⟨g2,0,none⟩) (k+1) cap2)):=(Chg.refl _ _).setCell (Or.inl (by simp)) _
     have HH9:=lh (heap_setCell_same hh9 1 (.slice (some ⟨g2,0,none⟩) (k+1) cap2))
     have HO9:=lh (owns_chg r1 hset (fun j hj=>by
      have e:g2=j:=by simpa[Value.ownBlock] using hj
      rw[List.mem_singleton,←e]
      have hk9:KindAt w9 ob 24:=⟨_,_,hh9⟩
      exact (own_kind r1 (b:=g2) rfl).ne hk9 (by decide)))
     have HC9:=lh ((HC.out.trans r2 (fun j hj=>Or.inr (by have:=(HO.out.lt j (by simpa using hj)).1;have:=HSZ7.out;omega))).trans hset (fun j hj=>Or.inl hj))
     refine hK.out _ _ (fun _=>(((Chg.refl _ wr).trans r2 (fun j hj=>Or.inl hj)))) ?_
     clear hK K hr9 r1 r2 r3 hh9 hset
     try simp only[Act.put,List.setIfInBounds_toArray,List.set_cons_zero,List.set_cons_succ]
     refine along_op rfl (by rfl) (by rfl) (fun K hK=>?_)
     go_simp
     refine hK.out _ _ (fun h=>absurd h (Bool.eq_false_iff.1 (by kernel_rfl))) ?_
     clear hK K
     try simp only[Act.put,Z1,Z2,Z3,Z4,Z5,Z6]
     refine along_op rfl (by rfl) (by rfl) (fun K hK=>?_)
     go_simp
     refine hK.out _ _ (fun h=>absurd h (Bool.eq_false_iff.1 (by kernel_rfl))) ?_
     clear hK K
     try simp only[Act.put,Z1,Z2,Z3,Z4,Z5,Z6]
     refine along_done ?_
     clear c9 g9 c1 x0 x1 y0 y1 e0 e1 hSB n1 n2 n3
     generalize (w9.setCell ⟨ob,1,none⟩ (.slice (some ⟨g2,0,none⟩) (k+1) cap2))=w10 at *
     go_wp2
     go_roundw
     case rel=>exact⟨k+1,by omega,by go_num,_,HH9.out,by rw[HNX.out,edgeCells_snoc];exact HO9.out,HC9.out⟩
     case measure=>simp[intOf];omega
   have e:k=g.e.length:=by omega
   subst e
   have c0:=(cell_of_row _ _ 0 _ _ _ hh).trans (show _=some (Value.int .i64 g.n) from rfl)
   have c1:=(cell_of_row _ _ 1 _ _ _ hh).trans (show _=some v from rfl)
   have hfe:(Plain.flipG g f).e.length=g.e.length:=Plain.flipE_len _ _ _
   have hgr:GrAt wr (.agg #[.int .i64 g.n,v]) (Plain.flipG g f):=grAt_row (g:=Plain.flipG g f) (B:=ob+1) HNG.out (fun i hi=>by
    rw[hfe] at hi
    rw[(Plain.flipG_ok g f).ends i]
    obtain⟨h1,h2⟩:=HGX.out.1 i hi
    split
    ·exact⟨h2,h1⟩
    exact⟨h1,h2⟩) (by rw[hfe];omega) (by rw[hfe];exact ho)
   have HGR:=lh hgr
   have HFLP:=lh (Plain.flipG_ok g f)
   obtain⟨ao,cp,rfl⟩:=owns_shape ho
   clear hh ho hc hlt hk hgr hfe
   go_wp2_with fail
   refine (block_any _ _ (Plain.flipG g f) p _ hpv HGR.out (HP.out.fresh (HC6.out.trans HW.out (by simp)))).mono ?_
   rintro e w9 ⟨v9,err9,t9,rfl,hbr,-,hc9⟩
   obtain rfl:=HBR.out.flip HFLP.out hbr
   have HC9:=lh ((HC6.out.trans HW.out (by simp)).trans hc9 (by simp))
   clear hc9 hbr c0 c1 x0 x1 y0 y1 hsz
   have beq9:(err9==err9)=true:=by simp
   go_wp2
   go_ret
   exact⟨rfl,HC9.out⟩
end Go.Proofs.Ytbkjljffnkdcjaa
namespace Go.Proofs.Ytbkjljffnkdcjaa
open Go.ChangeShapes Go.WideShapes Go.ChangeAt Go.RowKit Go.Deep Go.Joins
section
variable {H : Type} {enc : TypeId × Value → H} {w : World} {base : Nat} {held : Bool}
theorem cellsBool:Try.prog.cellsOf 4=1:=by kernel_rfl
theorem bools_open {fuel:Nat} {u:Value} {x:DataW H × List MemPlace} (h:DataW.trod enc Try.prog w base (fun _=>true) held fuel 28 [u]=some x):∃ l,BoolsAt w u l:=by
 rcases open_bools Try.underlying28 Try.underlying4 cellsBool h with ⟨hcs,_⟩ | ⟨a,len',cap',B,hcs,_,hl,hm,_,hcell⟩
 ·simp at hcs
  subst hcs
  exact⟨[],none,0,rfl,by decide,fun h=>absurd rfl h⟩
 simp at hcs
 subst hcs
 unfold maxLen at hm
 refine⟨(List.range len').map B,some a,cap',by simp,by simp;omega,fun hne=>?_⟩
 have h0:0<len':=by
  rcases Nat.eq_zero_or_pos len' with q | q
  ·rw[q] at hne;simp at hne
  exact q
 obtain⟨b,off,spot⟩:=a
 have hs:spot=none:=by
  have:=World.cell?_spot (hcell 0 (by omega))
  simpa[Addr.add] using this
 subst hs
 refine⟨b,off,rfl,fun i hi=>?_⟩
 have hi:i<len':=by simpa using hi
 have h1:=hcell i (by omega)
 rw[add_plain] at h1
 rw[h1]
 simp[List.getD,hi]
end
end Go.Proofs.Ytbkjljffnkdcjaa
