/- ref04: the contract of RightPart. Conditions: a graph, a part that lie in memory and read so, of a bounded size. -/
import Derived.Test.YtbkjljffnkdcjaaGreatD9Awake8
open List renaming mem_map→Qa,mem_flatten→Qb,take_length→Qc,nodup_cons→Qd,pairwise_map→Qf,all_eq_true→Qg,mem_filter→Qh
open Nat renaming le_trans→Qe
open Go.Value renaming slice→Qi
namespace Go.Proofs.YtbkjljffnkdcjaaGreat
open Go.RowKit Go.Maps
namespace Plain
end Plain
namespace Plain
end Plain
end Go.Proofs.YtbkjljffnkdcjaaGreat
namespace Go.Proofs.YtbkjljffnkdcjaaGreat.Plain
theorem Gd {g:Gr} {p:Pt} {aa:List (List Int)} (hp:aH g p) (ht:aT g p aa):∃ C,bC (ay g aa) C/\C.flatten.Perm p.ag:=by
 obtain⟨h1,h2⟩:=ke ht hp.en hp.vn hp.vr;have hA:=wF hp.en;have hl:leaving g p p.v=p.ag:=List.filter_eq_self.2 fun d hd=>decide_eq_true (hp.aQ hd).1;have hd:(p.e.map fun e=>[2*e,2*e+1]).flatten=p.ag:=by rw[Pt.ag,List.flatMap_def]
 obtain⟨C,h,k,-⟩:=bC.mul _ rfl h1 hA (by rw[hd,<-hl];exact h2.symm);exact⟨C,h.congr fun x _=>rfl,by rw[hd] at k;exact k⟩
structure SH (g:Gr) (p:Pt) (aa:List (List Int)) (d:Int) (l:List Int):Prop where
 ring:Ring (ay g aa) (d :: l)
 nodup:(d :: l).Nodup
 sub:∀ x∈d :: l,x∈p.ag
theorem Eg {g:Gr} {p:Pt} {aa:List (List Int)} (hp:aH g p) (ht:aT g p aa) {d:Int} (hd:d∈p.ag):∃ l,SH g p aa d l:=by
 obtain⟨C,hC,dA⟩:=Gd hp ht;obtain⟨c,hc,SR⟩:=Qb.1 (dA.mem_iff.2 hd);obtain⟨l,hl,AJ⟩:=(hC.ring c hc).from SR;exact⟨l,hl,AJ.nodup_iff.2 ((ji.1 hC.nodup).1 c hc),fun x hx=>dA.mem_iff.1 (Qb.2 ⟨c,hc,AJ.mem_iff.1 hx⟩)⟩
theorem SH.one {g:Gr} {p:Pt} {aa:List (List Int)} {d:Int} {l m:List Int} (h:SH g p aa d l) (k:SH g p aa d m):l=m :=
 Trail.det (x:=d) h.ring k.ring (Qd.1 h.nodup).1 (Qd.1 k.nodup).1
theorem SH.aa {g:Gr} {p:Pt} {aa:List (List Int)} {d x:Int} {l:List Int} (h:SH g p aa d l) (hx:x∈d :: l):∃ m,SH g p aa x m/\(x :: m).Perm (d :: l):=by
 obtain⟨m,hm,hp⟩:=h.ring.from hx;exact⟨m,⟨hm,hp.nodup_iff.2 h.nodup,fun y hy=>h.sub y (hp.mem_iff.1 hy)⟩,hp⟩
open Classical in
noncomputable def tx (g:Gr) (p:Pt) (aa:List (List Int)) (d:Int):List Int:=if h:∃ l,SH g p aa d l then Classical.choose h else []
theorem Dj {g:Gr} {p:Pt} {aa:List (List Int)} (hp:aH g p) (ht:aT g p aa) {d:Int} (hd:d∈p.ag):SH g p aa d (tx g p aa d):=by
 have h:=Eg hp ht hd;unfold tx;rw[dif_pos h];exact Classical.choose_spec h
noncomputable def CG (g:Gr) (p:Pt) (aa:List (List Int)) (d:Int):Bool:=(tx g p aa d).all fun x=>decide (d<x)
noncomputable def jV (g:Gr) (p:Pt) (aa:List (List Int)) (k:Nat):List bR:=((p.ag.take k).filter (CG g p aa)).map fun d=>(d,d :: tx g p aa d)
theorem e8 {g:Gr} {p:Pt} {aa:List (List Int)} {f:bR} {k:Nat} (h:f∈jV g p aa k):f.1∈p.ag/\CG g p aa f.1=true/\f.2=f.1 :: tx g p aa f.1:=by
 unfold jV at h;obtain⟨d,hd,rfl⟩:=Qa.1 h;obtain⟨h1,h2⟩:=Qh.1 hd;exact⟨(List.take_sublist _ _).subset h1,h2,rfl⟩
theorem Dc {g:Gr} {p:Pt} {aa:List (List Int)} (hp:aH g p) (hr:p.e.Pairwise (·<·)) (ht:aT g p aa):yL g p aa (jV g p aa p.ag.length) p.ag:=by
 have hle:∀ f∈jV g p aa p.ag.length,∀ y∈f.2,f.1<=y:=by
  intro f hf y hy;obtain⟨-,h2,h3⟩:=e8 hf;rw[h3] at hy;rcases List.mem_cons.1 hy with q | q
  ·omega
  have:=Qg.1 h2 y q;simp at this;omega
 have PO:∀ f∈jV g p aa p.ag.length,SH g p aa f.1 (tx g p aa f.1):=fun f hf=>Dj hp ht (e8 hf).1;have adh:((jV g p aa p.ag.length).map (·.1))=p.ag.filter (CG g p aa):=by
  unfold jV;rw[Qc,List.map_map];exact List.map_id' _
 have zm:=kL hr;have VK:((jV g p aa p.ag.length).map (·.1)).Sublist p.ag:=by rw[adh];exact List.filter_sublist
 have lQ:∀ f∈jV g p aa p.ag.length,∀ f'∈jV g p aa p.ag.length,∀ y,y∈f.2->y∈f'.2->f.1=f'.1:=by
  intro f hf f' uU y hy WN;have h3:=(e8 hf).2.2;have Y6:=(e8 uU).2.2;rw[h3] at hy;rw[Y6] at WN;obtain⟨m,hm,FA⟩:=(PO f hf).aa hy;obtain⟨m',hm',ajt⟩:=(PO f' uU).aa WN;have:=hm.one hm';subst this;have dA:=FA.symm.trans ajt;have h1:=hle f hf f'.1 (by rw[h3];exact dA.mem_iff.2 (by simp));have h2:=hle f' uU f.1 (by rw[Y6];exact dA.mem_iff.1 (by simp));omega
 refine⟨⟨fun c hc=>?_,?_⟩,fun x hx=>?_,fun f hf=>⟨_,(e8 hf).2.2⟩,VK,fun f hf=>?_,fun x hx=>?_⟩
 ·obtain⟨f,hf,rfl⟩:=Qa.1 hc
  rw[(e8 hf).2.2];exact (PO f hf).ring
 ·rw[ji]
  refine⟨fun l hl=>?_,?_⟩
  ·obtain⟨f,hf,rfl⟩:=Qa.1 hl
   rw[(e8 hf).2.2];exact (PO f hf).nodup
  rw[Qf];have hkp:(jV g p aa p.ag.length).Pairwise fun a b=>a.1<b.1:=by
   have:=zm.sublist VK;rwa[Qf] at this
  refine hkp.imp_of_mem ?_;intro a b ha hb lT x hx y hy e;subst e;have:=lQ a ha b hb x hx hy;omega
 ·obtain⟨c,hc,Fw⟩:=Qb.1 hx
  obtain⟨f,hf,rfl⟩:=Qa.1 hc;rw[(e8 hf).2.2] at Fw;exact (PO f hf).sub x Fw
 ·obtain⟨a,b,e⟩:=List.append_of_mem (e8 hf).1
  refine⟨a,b,e,fun y hy ha=>?_⟩;have h1:=hle f hf y hy;rw[e] at zm;have:=(List.pairwise_append.1 zm).2.2 y ha f.1 (by simp);omega
 obtain⟨l,hl⟩:=Eg hp ht hx;obtain⟨d,hd,KT⟩:=exists_least (l:=x :: l) (by simp);obtain⟨m,hm,FA⟩:=hl.aa hd;have mj:=hl.sub d hd;have e:=(Dj hp ht mj).one hm;have hma:CG g p aa d=true:=by
  unfold CG;rw[Qg,e];intro y hy;have h1:=KT y (FA.mem_iff.1 (by simp[hy]));have h2:d≠y:=fun q=>(Qd.1 hm.nodup).1 (q ▸ hy);simp;omega
 refine Qb.2 ⟨d :: tx g p aa d,Qa.2 ⟨(d,d :: tx g p aa d),Qa.2 ⟨d,Qh.2 ⟨by rw[Qc];exact mj,hma⟩,rfl⟩,rfl⟩,?_⟩;rw[e];exact FA.mem_iff.2 (by simp)
theorem Ip {g:Gr} {p:Pt} {aa:List (List Int)} (hr:p.err g=0) (ht:aT g p aa):dj aa p.v++jV g p aa p.ag.length=iI g p aa :=
 ((Dc (Pt.aF hr) (bY (Pt.aP hr).2.2.1) ht).walks (Pt.aF hr)).eq hr
def a8 (g:Gr) (p:Pt) (v:Int):List Int:=p.ag.filter fun d=>decide (g.tail d=v)
def bX (g:Gr) (p:Pt) (v:Int) (k:Nat):List Int:=(p.ag.take k).filter fun d=>decide (g.tail d=v)
theorem ri (g:Gr) (p:Pt) (v:Int):bX g p v 0=[]:=by simp[bX]
theorem ue (g:Gr) (p:Pt) (v:Int):bX g p v p.ag.length=a8 g p v:=by unfold bX a8;rw[Qc]
theorem sm {g:Gr} {p:Pt} {v:Int} {k:Nat} (hk:k<p.ag.length):bX g p v (k+1)=if g.tail (p.ag.getD k 0)=v then bX g p v k++[p.ag.getD k 0] else bX g p v k:=by
 unfold bX;rw[oK hk,List.filter_append];by_cases h:g.tail (p.ag.getD k 0)=v
 ·rw[List.filter_cons_of_pos (by simpa using h),if_pos h];rfl
 rw[List.filter_cons_of_neg (by simpa using h),if_neg h];simp
theorem kW (g:Gr) (p:Pt) (v:Int) (k:Nat):(bX g p v k).length<=k :=
 Qe (List.length_filter_le _ _) (by rw[List.length_take];omega)
theorem bk {g:Gr} {p:Pt} {v d:Int}:d∈a8 g p v↔d∈p.ag/\g.tail d=v:=by simp[a8]
theorem jr {g:Gr} {p:Pt} (h:p.e.Nodup) (v:Int):(a8 g p v).Nodup:=(cP h).filter _
theorem qq {p:Pt} {i:Nat} (hi:i<p.e.length) (s:Nat) (hs:s<2):p.ag.getD (2*i+s) 0=2*p.e.getD i 0+s:=by
 obtain⟨v,e⟩:=p;unfold Pt.ag;dsimp only at hi ⊢
 induction e generalizing i with
 | nil=>simp at hi
 | cons a l ih =>
  rw[List.flatMap_cons];cases i with
  | zero=>rcases (show s=0\/s=1 by omega) with rfl | rfl <;> simp[List.getD]
  | succ i =>
   have:=ih (i:=i) (by simpa using hi);rw[show 2*(i+1)+s=(2*i+s)+2 by omega];simpa[List.getD] using this
theorem Pt.JB {g:Gr} {p:Pt} (h:p.err g=0) {e:Int} (he:e∈p.e):0<=e/\e<g.e.length:=by
 obtain⟨i,hi,rfl⟩:=bO he;have:=ct (Pt.aP h).2.2.1 hi;exact⟨this.1,this.2.1⟩
end Go.Proofs.YtbkjljffnkdcjaaGreat.Plain
namespace Go.Proofs.YtbkjljffnkdcjaaGreat
open Go.RowKit Go.Maps
theorem CH {w:World} {B:Nat} (hB:B<=w.heap.size) {k:Int} (hk:bn k):ax (w.alloc (.cells #[.int .i64 k] 3)) B (.slice (some ⟨w.heap.size,0,none⟩) 1 1) [k] :=
 ⟨World.ownsRow_lit w #[.int .i64 k] 1 hB (by decide) rfl,by simpa using hk,by simp⟩
theorem fA {ops:Array Oper} {rest:List Oper} {o:Oper} {a:Act} {Q:Exit->Act->World->Prop} {w w0:World} (hg:o.guard=none) (s x:Operand) (ho:o.op=.call { callee:=.builtin .append,args:=#[s,x],argTypes:=#[25,25] })
  {B:Nat} {v:Value} {l:List Int} {k:Int} (hs:a.eval s=v) (hx:a.eval x=.slice (some ⟨w0.heap.size,0,none⟩) 1 1) (h:ax w0 B v l) (hk:bn k) (hB:B<=w0.heap.size) (hn:l.length<4294967290) (hw:w=w0.alloc (.cells #[.int .i64 k] 3))
  (hK:∀ v' w',ax w' B v' (l++[k])->ai (aL v) w0 w'->(∀ b∈aL v',b∈aL v\/w0.heap.size<=b)->wpList Tryz.prog ops Q rest (a.put o.dst v') w'):wpList Tryz.prog ops Q (o :: rest) a w:=by
 subst hw;have hc:=(ai.refl [] w0).alloc (.cells #[.int .i64 k] 3);refine Xq hg s x ho hs hx (h.aM hc (by simp)) (CH (B:=w0.heap.size) (Nat.le_refl _) hk) (Qe hB hc.size) (by simp;omega) fun v' w' r1 r2 r3=>hK v' w' r1 ((hc.mono (by simp)).trans r2 fun j hj=>Or.inl hj) fun b hb=>(r3 b hb).imp id fun q=>Qe hc.size q
theorem aJ.cellAt {w:World} {ao:Option Addr} {n c:Nat} {l:List Int} (h:aJ w (.slice ao n c) l) {i:Nat} (hi:i<l.length):∃ b off,ao=some ⟨b,off,none⟩/\w.cell? ⟨b,off+i,none⟩=some (.int .i64 (l.getD i 0)):=by
 obtain⟨Nr,c',e',-,-,h⟩:=h;simp only[Qi.injEq] at e';obtain⟨rfl,-,rfl⟩:=e';obtain⟨b,off,rfl,h2⟩:=h (by intro q;rw[q] at hi;simp at hi);exact⟨b,off,rfl,h2 i hi⟩
theorem eC.row {w:World} {tno:Option Addr} {n tc:Nat} {ll:List (List Int)} (h:eC w (.slice tno n tc) ll) {k:Nat} (hk:k<ll.length):∃ b off uo uc,tno=some ⟨b,off,none⟩/\w.cell? ⟨b,off+k,none⟩=some (.slice uo (ll.getD k []).length uc)/\aJ w (.slice uo (ll.getD k []).length uc) (ll.getD k []):=by
 obtain⟨ao,cap,e,-,h2⟩:=h;simp only[Qi.injEq] at e;obtain⟨rfl,rfl,rfl⟩:=e;obtain⟨b,off,u,rfl,h3,-,h5⟩:=h2 k hk;have h6:=h5;obtain⟨uo,uc,rfl,-⟩:=h5;exact⟨b,off,uo,uc,rfl,h3,h6⟩
theorem gp (w:World) (B:Nat):ax w B (.slice none 0 0) []:=⟨World.ownsRow_nil _ _ _ _,by simp,by simp⟩
end Go.Proofs.YtbkjljffnkdcjaaGreat
namespace Go.Proofs.YtbkjljffnkdcjaaGreat
open Go.RowKit Go.Maps
end Go.Proofs.YtbkjljffnkdcjaaGreat
