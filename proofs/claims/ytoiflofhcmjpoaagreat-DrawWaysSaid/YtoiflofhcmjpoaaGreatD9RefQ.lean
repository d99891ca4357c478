/- ref04: the contract of RightPart. Conditions: a graph, a part that lie in memory and read so, of a bounded size. -/
import Derived.Test.YtoiflofhcmjpoaaGreatD9RefP
import Derived.Test.YtoiflofhcmjpoaaGreatD9RefG
open List renaming mem_flatten→Qa,mem_map→Qb,nodup_cons→Qc,all_eq_true→Qe
open Nat renaming le_trans→Qd
open Go.Value renaming slice→Qf
namespace Go.Proofs.YtoiflofhcmjpoaaGreat
open Go.RowKit Go.Maps
namespace Plain
end Plain
namespace Plain
end Plain
end Go.Proofs.YtoiflofhcmjpoaaGreat
namespace Go.Proofs.YtoiflofhcmjpoaaGreat.Plain
theorem Ga {g:Gr} {p:Pt} {aa:List (List Int)} (hp:aB g p) (ht:aR g p aa):∃ C,bw (aG g aa) C/\C.flatten.Perm p.ah:=by
 obtain⟨h1,h2⟩:=lr ht hp.en hp.vn hp.vr;have hA:=tO hp.en;have hl:leaving g p p.v=p.ah:=List.filter_eq_self.2 fun d hd=>decide_eq_true (hp.aO hd).1;have hd:(p.e.map fun e=>[2*e,2*e+1]).flatten=p.ah:=by rw[Pt.ah,List.flatMap_def]
 obtain⟨C,h,k,-⟩:=bw.mul _ rfl h1 hA (by grind);exact⟨C,h.congr fun x _=>rfl,by grind⟩
structure Pd (g:Gr) (p:Pt) (aa:List (List Int)) (d:Int) (l:List Int):Prop where
 ring:Ring (aG g aa) (d :: l)
 nodup:(d :: l).Nodup
 sub:∀ x∈d :: l,x∈p.ah
theorem A2 {g:Gr} {p:Pt} {aa:List (List Int)} (hp:aB g p) (ht:aR g p aa) {d:Int} (hd:d∈p.ah):∃ l,Pd g p aa d l:=by
 obtain⟨C,hC,dW⟩:=Ga hp ht;obtain⟨c,hc,Xz⟩:=Qa.1 (dW.mem_iff.2 hd);obtain⟨l,hl,SY⟩:=(hC.ring c hc).from Xz;exact⟨l,hl,SY.nodup_iff.2 ((eK.1 hC.nodup).1 c hc),fun x hx=>dW.mem_iff.1 (Qa.2 ⟨c,hc,SY.mem_iff.1 hx⟩)⟩
theorem Pd.one {g:Gr} {p:Pt} {aa:List (List Int)} {d:Int} {l m:List Int} (h:Pd g p aa d l) (k:Pd g p aa d m):l=m :=
 Trail.det (x:=d) h.ring k.ring (Qc.1 h.nodup).1 (Qc.1 k.nodup).1
theorem Pd.aa {g:Gr} {p:Pt} {aa:List (List Int)} {d x:Int} {l:List Int} (h:Pd g p aa d l) (hx:x∈d :: l):∃ m,Pd g p aa x m/\(x :: m).Perm (d :: l):=by
 obtain⟨m,hm,hp⟩:=h.ring.from hx;exact⟨m,⟨hm,hp.nodup_iff.2 h.nodup,fun y hy=>h.sub y (hp.mem_iff.1 hy)⟩,hp⟩
open Classical in
noncomputable def rV (g:Gr) (p:Pt) (aa:List (List Int)) (d:Int):List Int:=if h:∃ l,Pd g p aa d l then Classical.choose h else []
theorem CQ {g:Gr} {p:Pt} {aa:List (List Int)} (hp:aB g p) (ht:aR g p aa) {d:Int} (hd:d∈p.ah):Pd g p aa d (rV g p aa d):=by
 grind [A2,rV]
noncomputable def A3 (g:Gr) (p:Pt) (aa:List (List Int)) (d:Int):Bool:=(rV g p aa d).all fun x=>decide (d<x)
noncomputable def iT (g:Gr) (p:Pt) (aa:List (List Int)) (k:Nat):List bn:=((p.ah.take k).filter (A3 g p aa)).map fun d=>(d,d :: rV g p aa d)
theorem eH {g:Gr} {p:Pt} {aa:List (List Int)} {f:bn} {k:Nat} (h:f∈iT g p aa k):f.1∈p.ah/\A3 g p aa f.1=true/\f.2=f.1 :: rV g p aa f.1:=by
 grind [iT]
theorem A4 {g:Gr} {p:Pt} {aa:List (List Int)} (hp:aB g p) (hr:p.e.Pairwise (·<·)) (ht:aR g p aa):wh g p aa (iT g p aa p.ah.length) p.ah:=by
 have hle:∀ f∈iT g p aa p.ah.length,∀ y∈f.2,f.1<=y:=by
  intro f hf y hy;obtain⟨-,h2,h3⟩:=eH hf;rw[h3] at hy;rcases List.mem_cons.1 hy with q | q
  ·omega
  have:=Qe.1 h2 y q;simp at this;omega
 have GQ:∀ f∈iT g p aa p.ah.length,Pd g p aa f.1 (rV g p aa f.1):=fun f hf=>CQ hp ht (eH hf).1;have aa9:((iT g p aa p.ah.length).map (·.1))=p.ah.filter (A3 g p aa):=by
  unfold iT;rw[List.take_length,List.map_map];exact List.map_id' _
 have BD:=ig hr;have abJ:((iT g p aa p.ah.length).map (·.1)).Sublist p.ah:=by rw[aa9];exact List.filter_sublist
 have Ab:∀ f∈iT g p aa p.ah.length,∀ f'∈iT g p aa p.ah.length,∀ y,y∈f.2->y∈f'.2->f.1=f'.1:=by
  intro f hf f' wR y hy hy';have h3:=(eH hf).2.2;have I9:=(eH wR).2.2;rw[h3] at hy;rw[I9] at hy';obtain⟨m,hm,EH⟩:=(GQ f hf).aa hy;obtain⟨m',Um,ait⟩:=(GQ f' wR).aa hy';have:=hm.one Um;subst this;have dW:=EH.symm.trans ait;have h1:=hle f hf f'.1 (by rw[h3];exact dW.mem_iff.2 (by simp));have h2:=hle f' wR f.1 (by rw[I9];exact dW.mem_iff.1 (by simp));omega
 refine⟨⟨fun c hc=>?_,?_⟩,fun x hx=>?_,fun f hf=>⟨_,(eH hf).2.2⟩,abJ,fun f hf=>?_,fun x hx=>?_⟩
 ·obtain⟨f,hf,rfl⟩:=Qb.1 hc
  rw[(eH hf).2.2];exact (GQ f hf).ring
 ·rw[eK]
  refine⟨fun l hl=>?_,?_⟩
  ·obtain⟨f,hf,rfl⟩:=Qb.1 hl
   rw[(eH hf).2.2];exact (GQ f hf).nodup
  rw[List.pairwise_map];have hkp:(iT g p aa p.ah.length).Pairwise fun a b=>a.1<b.1:=by
   grind
  refine hkp.imp_of_mem ?_;intro a b ha hb qi x hx y hy e
  grind
 ·obtain⟨c,hc,xv⟩:=Qa.1 hx
  obtain⟨f,hf,rfl⟩:=Qb.1 hc;rw[(eH hf).2.2] at xv;exact (GQ f hf).sub x xv
 ·obtain⟨a,b,e⟩:=List.append_of_mem (eH hf).1
  refine⟨a,b,e,fun y hy ha=>?_⟩;have h1:=hle f hf y hy;rw[e] at BD;have:=(List.pairwise_append.1 BD).2.2 y ha f.1 (by simp);omega
 obtain⟨l,hl⟩:=A2 hp ht hx;obtain⟨d,hd,SU⟩:=exists_least (l:=x :: l) (by simp);obtain⟨m,hm,EH⟩:=hl.aa hd;have lC:=hl.sub d hd;have e:=(CQ hp ht lC).one hm;have hma:A3 g p aa d=true:=by
  unfold A3;rw[Qe,e];intro y hy;have h1:=SU y (EH.mem_iff.1 (by simp[hy]));have h2:d≠y:=fun q=>(Qc.1 hm.nodup).1 (q ▸ hy);simp;omega
 refine Qa.2 ⟨d :: rV g p aa d,Qb.2 ⟨(d,d :: rV g p aa d),Qb.2 ⟨d,List.mem_filter.2 ⟨by grind,hma⟩,rfl⟩,rfl⟩,?_⟩
 grind
theorem FN {g:Gr} {p:Pt} {aa:List (List Int)} (hr:p.err g=0) (ht:aR g p aa):cR aa p.v++iT g p aa p.ah.length=cJ g p aa :=
 ((A4 (Pt.ay hr) (bM (Pt.aA hr).2.2.1) ht).walks (Pt.ay hr)).eq hr
def aF (g:Gr) (p:Pt) (v:Int):List Int:=p.ah.filter fun d=>decide (g.tail d=v)
def bG (g:Gr) (p:Pt) (v:Int) (k:Nat):List Int:=(p.ah.take k).filter fun d=>decide (g.tail d=v)
theorem lM (g:Gr) (p:Pt) (v:Int):bG g p v 0=[]:=by simp[bG]
theorem nk (g:Gr) (p:Pt) (v:Int):bG g p v p.ah.length=aF g p v:=by grind [bG,aF]
theorem pq {g:Gr} {p:Pt} {v:Int} {k:Nat} (hk:k<p.ah.length):bG g p v (k+1)=if g.tail (p.ah.getD k 0)=v then bG g p v k++[p.ah.getD k 0] else bG g p v k:=by
 all_goals grind [bG,kT]
theorem gx (g:Gr) (p:Pt) (v:Int) (k:Nat):(bG g p v k).length<=k :=
 Qd (List.length_filter_le _ _) (by rw[List.length_take];omega)
theorem bg {g:Gr} {p:Pt} {v d:Int}:d∈aF g p v↔d∈p.ah/\g.tail d=v:=by simp[aF]
theorem eS {g:Gr} {p:Pt} (h:p.e.Nodup) (v:Int):(aF g p v).Nodup:=(dz h).filter _
theorem lB {p:Pt} {i:Nat} (hi:i<p.e.length) (s:Nat) (hs:s<2):p.ah.getD (2*i+s) 0=2*p.e.getD i 0+s:=by
 obtain⟨v,e⟩:=p;unfold Pt.ah;dsimp only at hi ⊢
 induction e generalizing i with
 | nil=>simp at hi
 | cons a l ih =>
  rw[List.flatMap_cons];cases i with
  | zero=>rcases (show s=0\/s=1 by omega) with rfl | rfl <;> simp[List.getD]
  | succ i =>
   grind
theorem Pt.tj {g:Gr} {p:Pt} (h:p.err g=0) {e:Int} (he:e∈p.e):0<=e/\e<g.e.length:=by
 obtain⟨i,hi,rfl⟩:=bN he;have:=bX (Pt.aA h).2.2.1 hi
 grind
theorem Pt.mw {g:Gr} {p:Pt} (h:p.err g=0) {d:Int} (hd:d∈p.ah):∃ n:Nat,d=n/\n / 2<g.e.length/\n<2048:=by
 have h1:=tj h (aw.1 hd);have h2:=Gr.aA (Pt.aA h).1;exact⟨d.toNat,by omega,by omega,by omega⟩
end Go.Proofs.YtoiflofhcmjpoaaGreat.Plain
namespace Go.Proofs.YtoiflofhcmjpoaaGreat
open Go.RowKit Go.Maps
theorem BG {w:World} {B:Nat} (hB:B<=w.heap.size) {k:Int} (hk:aU k):aj (w.alloc (.cells #[.int .i64 k] 3)) B (.slice (some ⟨w.heap.size,0,none⟩) 1 1) [k] :=
 ⟨World.ownsRow_lit w #[.int .i64 k] 1 hB (by decide) rfl,by simpa using hk,by simp⟩
theorem gA {ops:Array Oper} {rest:List Oper} {o:Oper} {a:Act} {Q:Exit->Act->World->Prop} {w w0:World} (hg:o.guard=none) (s x:Operand) (ho:o.op=.call { callee:=.builtin .append,args:=#[s,x],argTypes:=#[25,25] })
  {B:Nat} {v:Value} {l:List Int} {k:Int} (hs:a.eval s=v) (hx:a.eval x=.slice (some ⟨w0.heap.size,0,none⟩) 1 1) (h:aj w0 B v l) (hk:aU k) (hB:B<=w0.heap.size) (hn:l.length<4294967290) (hw:w=w0.alloc (.cells #[.int .i64 k] 3))
  (hK:∀ v' w',aj w' B v' (l++[k])->ag (aE v) w0 w'->(∀ b∈aE v',b∈aE v\/w0.heap.size<=b)->wpList Tryz.prog ops Q rest (a.put o.dst v') w'):wpList Tryz.prog ops Q (o :: rest) a w:=by
 subst hw;have hc:=(ag.refl [] w0).alloc (.cells #[.int .i64 k] 3);refine Wo hg s x ho hs hx (h.aD hc (by simp)) (BG (B:=w0.heap.size) (Nat.le_refl _) hk) (Qd hB hc.size) (by simp;omega) fun v' w' r1 r2 r3=>hK v' w' r1 ((hc.mono (by simp)).trans r2 fun j hj=>Or.inl hj) fun b hb=>(r3 b hb).imp id fun q=>Qd hc.size q
theorem al.cellAt {w:World} {ao:Option Addr} {n c:Nat} {l:List Int} (h:al w (.slice ao n c) l) {i:Nat} (hi:i<l.length):∃ b off,ao=some ⟨b,off,none⟩/\w.cell? ⟨b,off+i,none⟩=some (.int .i64 (l.getD i 0)):=by
 obtain⟨TS,c',e',-,-,h⟩:=h;simp only[Qf.injEq] at e';obtain⟨rfl,-,rfl⟩:=e';obtain⟨b,off,rfl,h2⟩:=h (by grind)
 grind
theorem cf.row {w:World} {UI:Option Addr} {n tc:Nat} {ll:List (List Int)} (h:cf w (.slice UI n tc) ll) {k:Nat} (hk:k<ll.length):∃ b off uo uc,UI=some ⟨b,off,none⟩/\w.cell? ⟨b,off+k,none⟩=some (.slice uo (ll.getD k []).length uc)/\al w (.slice uo (ll.getD k []).length uc) (ll.getD k []):=by
 obtain⟨ao,cap,e,-,h2⟩:=h;simp only[Qf.injEq] at e;obtain⟨rfl,rfl,rfl⟩:=e;obtain⟨b,off,u,rfl,h3,-,h5⟩:=h2 k hk;have h6:=h5;obtain⟨uo,uc,rfl,-⟩:=h5
 grind
theorem eJ (w:World) (B:Nat):aj w B (.slice none 0 0) []:=⟨World.ownsRow_nil _ _ _ _,by simp,by simp⟩
end Go.Proofs.YtoiflofhcmjpoaaGreat
-- READS ONLY
namespace Go.Proofs.YtoiflofhcmjpoaaGreat
open Go.RowKit Go.Maps
end Go.Proofs.YtoiflofhcmjpoaaGreat
