/- Turns begun anew: the same walks, the same error, the same drawing. No program here. -/
import Derived.Test.YtbkjljffnkdcjaaGreatD9RefN
open List renaming exists_cons_of_ne_nil→Qa,perm_append_comm→Qb,mem_reverse→Qc,mem_append→Qd
namespace Go.Proofs.YtbkjljffnkdcjaaGreat.Plain
theorem Iw {p q:Int->Int} {c:List Int} (h:Ring p c) (k:Ring q c):∀ x∈c,p x=q x:=by
 cases c with
 | nil=>simp
 | cons a l =>
  have e:=(Trail.map (show Trail p a l a from h)).trans (Trail.map (show Trail q a l a from k)).symm;exact fun x hx=>List.map_inj_left.1 e x hx
theorem FL {a b:List Int} (hn:(a++b).Nodup):∀ x∈a++b,ahead (b++a) x=ahead (a++b) x:=by
 intro x hx;have gL:(b++a).Nodup:=(Qb).nodup_iff.1 hn;by_cases ha:a=[]
 ·subst ha;simp
 by_cases hb:b=[]
 ·subst hb;simp
 have h1:=jl hn (by simp[ha]);have h2:=jl gL (by simp[ha]);rw[List.reverse_append] at h1 h2;obtain⟨u,r,hr⟩:=Qa (show a.reverse≠[] by simpa using ha);obtain⟨v,s,hs⟩:=Qa (show b.reverse≠[] by simpa using hb);rw[hr,hs] at h1 h2;have h3:=Ring.aa (p:=ahead (a++b)) (l:=s) (m:=r) (x:=v) (y:=u) h1;have:=Iw h2 h3 x (by
  rw[<-hr,<-hs,Qd,Qc,Qc];exact Qd.1 hx)
 exact this
theorem uB (l:List Int):∃ a b,l=a++b/\first l=b++a:=⟨l.take (vi l l.length),l.drop (vi l l.length),(List.take_append_drop _ _).symm,rfl⟩
theorem fO (l:List Int):(first l).Perm l:=by
 obtain⟨a,b,e1,e2⟩:=uB l;rw[e2];exact Qb.trans (List.Perm.of_eq e1.symm)
theorem Dz {l:List Int} (hn:l.Nodup):∀ x∈l,ahead (first l) x=ahead l x:=by
 obtain⟨a,b,e1,e2⟩:=uB l;rw[e2];rw[e1] at hn ⊢;exact FL hn
theorem NQ {g:Gr} {p:Pt} {aa:List (List Int)} (gJ:p.err g=0) (uE:aT g p aa):fC g p aa (iI g p aa):=by
 rw[<-Ip gJ uE];exact (Dc (Pt.aF gJ) (bY (Pt.aP gJ).2.2.1) uE).walks (Pt.aF gJ)
end Go.Proofs.YtbkjljffnkdcjaaGreat.Plain
namespace Go.Proofs.YtbkjljffnkdcjaaGreat
open Go.RowKit Go.Maps
namespace Plain
end Plain
def Safe (w:World) (B:Nat) (v:Value):Prop:=∀ a n c,v=.slice (some a) n c->a.block<B\/∃ cs r,w.heap[a.block]?=some (.cells cs 3 r)
structure ahG (w:World) (B:Nat) (ov:Value) (vs:List Value) (ll:List (List Int)):Prop where
 out:w.ownsRow B 25 1 ov vs.length vs
 len:vs.length=ll.length
 rows:∀ k,k<vs.length->aJ w (vs.getD k undef) (ll.getD k [])/\nX (vs.getD k undef)/\Safe w B (vs.getD k undef)
end Go.Proofs.YtbkjljffnkdcjaaGreat
namespace Go.Proofs.YtbkjljffnkdcjaaGreat.Plain
def numOf (ll:List (List Int)) (key:Int):Int:=((N5 ll key).map fun (k:Nat)=>(k:Int)).getD 0
end Go.Proofs.YtbkjljffnkdcjaaGreat.Plain
namespace Go.Proofs.YtbkjljffnkdcjaaGreat
open Go.RowKit Go.Maps
end Go.Proofs.YtbkjljffnkdcjaaGreat
namespace Go.Proofs.YtbkjljffnkdcjaaGreat
open Go.RowKit Go.Maps
namespace Plain
end Plain
end Go.Proofs.YtbkjljffnkdcjaaGreat
