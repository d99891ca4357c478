/- The regions of a drawing: determined; each walk is in just one. No program here. -/
import Derived.Test.YtoiflofhcmjpoaaGreatD9RefU
open List renaming mem_flatten→Qa,mem_cons→Qc,take_length→Qd,getD→Qe,mem_map→Qf
open Nat renaming le_refl→Qb
namespace Go.Proofs.YtoiflofhcmjpoaaGreat
namespace Plain
structure akS (g:Gr) (p:Pt) (aa same:List (List Int)):Prop where
 part:p.err g=0
 turns:aR g p aa
 flat:Flat g p aa
 walks:dy g p aa (cJ g p aa)
 two:∀ l∈same,2<=l.length
 nodup:same.flatten.Nodup
 keys:∀ x∈same.flatten,x∈(cJ g p aa).map (·.1)
 apu:∀ l∈same,l.Pairwise (·<·)
 many:same.flatten.length+1<=(roots g p).length+same.length\/(roots g p).length=0
noncomputable def S2 (g:Gr) (p:Pt) (aa same:List (List Int)):List (List Int):=same++Rs (cJ g p aa) same.flatten
structure ahN (g:Gr) (p:Pt) (aa same ll:List (List Int)):Prop where
 perm:ll.Perm (S2 g p aa same)
 order:ll.Pairwise fun a b=>a.getD 0 0<=b.getD 0 0
theorem Mx {ll:List (List Int)} (hn:ll.flatten.Nodup) {l m:List Int} {x:Int} (hl:l∈ll) (hm:m∈ll) (h1:x∈l) (h2:x∈m):l=m:=by
 induction ll with
 | nil=>simp at hl
 | cons a ll ih =>
  rw[List.flatten_cons,List.nodup_append] at hn;rcases Qc.1 hl with q | q
  ·rcases Qc.1 hm with r | r
   ·rw[q,r]
   subst q;exact absurd rfl (hn.2.2 x h1 x (Qa.2 ⟨m,r,h2⟩))
  rcases Qc.1 hm with r | r
  ·subst r
   exact absurd rfl (hn.2.2 x h2 x (Qa.2 ⟨l,q,h1⟩))
  exact ih hn.2.1 q r
end Plain
end Go.Proofs.YtoiflofhcmjpoaaGreat
namespace Go.Proofs.YtoiflofhcmjpoaaGreat
open Go.RowKit Go.Maps
theorem pP (v:Value) (l:List Int) (x:Int) (w:World) (h:al w v l) :
  Calls Tryz.prog 179 #[v,.int .i64 x] w fun e w'=>e=.returned (.bool (decide (x∈l)))/\w'=w:=by
 obtain⟨ao,cap,rfl,-,hm,hc⟩:=h;cases l with
 | nil =>
  refine (Tryz.slices_Contains_int_empty ao cap x w).mono ?_;rintro e w' ⟨rfl,rfl⟩;exact⟨bm (by simp),rfl⟩
 | cons y r =>
  obtain⟨b,off,rfl,bA⟩:=hc (by simp);refine (Tryz.slices_Contains_int b off (y :: r).length cap (y :: r) x w (Qb _) hm bA).mono ?_;rintro e w' ⟨rfl,rfl⟩;exact⟨bm (by rw[Qd];simp),rfl⟩
theorem bj.read {w:World} {B:Nat} {ov:Value} {vs:List Value} {ll:List (List Int)} (h:bj w B ov vs ll) (hi:∀ l∈ll,(∀ x∈l,aU x)/\l.length<4294967296):cf w ov ll:=by
 have hlen:=h.len;have iD:∀ {v:Value} {n:Nat} {xs:List Value} {e:TypeId},w.ownsRow B e 1 v n xs->gV v:=by
  intro v n xs e ho;rcases ho.2 with ⟨rfl,_⟩ | ⟨g,cap,cur,rfl,-,-,hn,hc,-,-⟩
  ·exact⟨none,0,0,rfl,by decide,by decide⟩
  exact⟨_,_,_,rfl,hn,by unfold maxLen at hc;omega⟩
 rcases h.out.2 with ⟨rfl,h0⟩ | ⟨g,cap,cur,rfl,-,-,hn,hc,-,-⟩
 ·have:ll=[]:=List.length_eq_zero_iff.1 (by omega)
  subst this;exact⟨none,0,rfl,by decide,fun i hi=>absurd hi (by simp)⟩
 refine⟨_,cap,by rw[hlen],by unfold maxLen at hc;omega,fun i Av=>?_⟩;have Iv:i<vs.length:=by omega
 have aJ:=h.rows i Iv;have aK:=h.out.cellAt i (by omega);have hm:ll.getD i []∈ll:=by simp[Qe,Av]
 refine⟨g,0,vs.getD i undef,rfl,?_,iD aJ,aj.ints (B:=B) ⟨aJ,hi _ hm⟩⟩;rw[Nat.zero_add,aK];simp[Qe,Iv]
namespace Plain
end Plain
namespace Plain
end Plain
theorem yn (v:Value) (l:List Int) (w:World) (hl:l.length<=1000000000) (h:al w v l) :
  Calls Tryz.prog 53 #[v] w fun e w'=>∃ v',e=.returned v'/\aj w' w.heap.size v' l/\ag [] w w':=by
 obtain⟨ao,cap,rfl,dK,hm,hc⟩:=h;cases l with
 | nil =>
  cases ao with
  | none =>
   refine (Tryz.slices_Clone_int_nil 0 cap w).mono ?_
   grind [eJ,ag.refl]
  | some ad =>
   refine (Tryz.slices_Clone_int_zero ad cap w).mono ?_;rintro e w' ⟨v',rfl,h1,-,h3⟩;exact⟨_,rfl,⟨h1,by simp,by simp⟩,ag.mL h3 (Qb _)⟩
 | cons y r =>
  obtain⟨b,off,rfl,bA⟩:=hc (by simp);refine (Tryz.slices_Clone_int b off (y :: r).length cap (y :: r) w (Qb _) (by omega) bA).mono ?_;rintro e w' ⟨v',rfl,h1,-,h3⟩;rw[Qd] at h1;exact⟨_,rfl,⟨h1,dK,by omega⟩,ag.mL h3 (Qb _)⟩
structure aeS (w:World) (pb B T:Nat) (t s:List (List Int)):Prop where
 ex:∃ o1 v1 o2 v2,w.heap[pb]?=some (.cells #[o1,o2] 54 (0,0))/\bj w B o1 v1 t/\bj w B o2 v2 s/\(o1.ownBlock=none\/o1.ownBlock≠o2.ownBlock) /\
  (∀ k b,k<v1.length->(v1.getD k undef).ownBlock=some b->b<T)/\(∀ k b,k<v2.length->(v2.getD k undef).ownBlock=some b->b<T)
 small:∀ l∈t++s,(∀ x∈l,aU x)/\l.length<4294967296
theorem yU {w:World} {B:Nat} {ov:Value} {vs:List Value} {ll:List (List Int)} (h:bj w B ov vs ll):∀ k b,k<vs.length->(vs.getD k undef).ownBlock=some b->b<w.heap.size:=fun k _b hk hb=>nB (h.rows k hk) hb
theorem Hb {w0 w:World} {B T:Nat} {ov v:Value} {vs:List Value} {ll:List (List Int)} {l:List Int} (h:bj w0 B ov vs ll) (hB:B<=w0.heap.size) (hv:aj w0 T v l) (hBT:B<=T) (hX:∀ k b,k<vs.length->(vs.getD k undef).ownBlock=some b->b<T) (hn:vs.length<68719476736)
  (hw:w=w0.alloc (.cells #[v] 25)\/w=(w0.alloc (.cells #[v] 25)).drew) (ty:TypeId) :
  ∃ g cap w',(Builtin.append_ #[48,48] ty #[ov,.slice (some ⟨w0.heap.size,0,none⟩) 1 1]).run Tryz.prog w=.ok (.slice (some ⟨g,0,none⟩) (vs.length+1) cap) w' /\
   bj w' B (.slice (some ⟨g,0,none⟩) (vs.length+1) cap) (vs++[v]) (ll++[l])/\ag ov.ownBlock.toList w0 w'/\(ov.ownBlock=some g\/w0.heap.size<=g):=by
 obtain⟨va,vc,rfl⟩:=hv.shape;obtain⟨g,cap,w',hr,r2,r3,r4⟩:=kZ ji h.out hB (cs:=#[.slice va l.length vc]) rfl (pC _ _ _) hn hw ty;exact⟨g,cap,w',hr,h.add (jm hv.1 hBT) (fun k b hk hb e=>by
  have h1:=hX k b hk hb;have h2:=(hv.low b (by grind)).1;omega) r2 r3,r3,r4⟩
theorem kS {o:Oper} {a:Act} {K:Act->World->Prop} {Q:Exit->Act->World->Prop} {w w':World} (s x:Operand) (t:TypeId) (ho:o.op=.call { callee:=.builtin .append,args:=#[s,x],argTypes:=#[t,t] }) {v u r:Value} (hs:a.eval s=v) (hx:a.eval x=u)
  (hr:(Builtin.append_ #[t,t] o.type #[v,u]).run Tryz.prog w=.ok r w') (hK:K (a.put o.dst r) w'):o.wp Tryz.prog a w K Q:=by
 unfold Oper.wp execOp;simp only[ho,resolve,invoke,builtin,Sem.run_bind,Sem.run_pure,Result.andThen_ok,List.map_toArray,List.map_cons,List.map_nil,hs,hx,hr];exact hK
theorem cf.adN {w:World} {UI:Option Addr} {n tc:Nat} {ll:List (List Int)} (h:cf w (.slice UI n tc) ll) {k:Nat} (hk:k<ll.length):∃ b off u,UI=some ⟨b,off,none⟩/\w.cell? ⟨b,off+k,none⟩=some u/\gV u/\al w u (ll.getD k []):=by
 obtain⟨ao,cap,e,-,h2⟩:=h;simp only[Value.slice.injEq] at e;obtain⟨rfl,rfl,rfl⟩:=e;obtain⟨b,off,u,rfl,h3,h4,h5⟩:=h2 k hk;exact⟨b,off,u,rfl,h3,h4,h5⟩
namespace Plain
theorem ot {f:List Int->List Int} {L:List (List Int)} {k:Nat} (hk:k<L.length):(L.take (k+1)).map f=(L.take k).map f++[f (L.getD k [])]:=by
 rw[List.take_succ_eq_append_getElem hk,List.map_append];simp[Qe,hk]
end Plain
end Go.Proofs.YtoiflofhcmjpoaaGreat
-- READS ONLY
namespace Go.Proofs.YtoiflofhcmjpoaaGreat
open Go.RowKit Go.Maps
end Go.Proofs.YtoiflofhcmjpoaaGreat
-- READS ONLY
namespace Go.Proofs.YtoiflofhcmjpoaaGreat
open Go.RowKit Go.Maps
namespace Plain
theorem E2 {g:Gr} {p:Pt} {aa:List (List Int)} {W:List bn} (dm:p.err g=0) (hW:dy g p aa W) {f:bn} (hf:f∈W) :
  (f.2=[]/\-2048<f.1/\f.1<0/\f.bV g = -1 - f.1)\/∃ (d:Nat) (l:List Int),f.1=(d:Int)/\f.2=(d:Int) :: l/\(d:Int)∈p.ah/\d / 2<g.e.length/\d<2048/\f.bV g=g.tail d:=by
 obtain⟨F,e,hT⟩:=hW.split;rw[e] at hf;rcases List.mem_append.1 hf with q | q
 ·obtain⟨v,hv,rfl⟩:=Qf.1 q
  have hv:=List.mem_reverse.1 (List.mem_filter.1 hv).1;have h1:=(Pt.ay dm).vr v hv;have h2:=(Gr.aA (Pt.aA dm).1).2.1;exact Or.inl ⟨rfl,by show -2048 < -1 - v;omega,by show -1 - v<0;omega,rfl⟩
 obtain⟨l,hl⟩:=hT.key f q;have hd:f.1∈p.ah:=hT.sub _ (Qa.2 ⟨f.2,Qf.2 ⟨f,q,rfl⟩,by rw[hl];simp⟩);obtain⟨d,X2,sZ,hd3⟩:=Pt.mw dm hd;refine Or.inr ⟨d,l,X2,by rw[hl,X2],by rw[<-X2];exact hd,sZ,hd3,?_⟩;unfold bn.bV;rw[hl];show g.tail f.1=_;rw[X2]
end Plain
namespace Plain
end Plain
end Go.Proofs.YtoiflofhcmjpoaaGreat
