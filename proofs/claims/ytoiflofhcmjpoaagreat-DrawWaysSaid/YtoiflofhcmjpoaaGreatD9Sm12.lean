/- law 12's small; draw.Planar: contracts. Conditions: a graph, a part that lie in memory and read so. -/
import Derived.Test.YtoiflofhcmjpoaaGreatD9BlkR
namespace Go.Proofs.YtoiflofhcmjpoaaGreat
open Go.RowKit Go.Maps
namespace Plain
def pR (g:Gr) (p:Pt):Bool:=jv g p []&&decide (p.e.length<=24)&&decide (p.v.length<=20)
theorem Eu {g:Gr} {p:Pt} (h:pR g p=true):p.e.length<=24/\p.v.length<=20/\g.e.length<=60:=by
 unfold pR jv iP at h;simp only[Bool.and_eq_true,decide_eq_true_iff] at h;omega
end Plain
set_option maxRecDepth 100000 in
set_option maxHeartbeats 4000000 in
theorem BJ (vg vp:Value) (g:Plain.Gr) (p:Plain.Pt) (w:World) (hg:dJ w vg g) (hp:fL w vp p) :
  Calls Tryz.prog 27 #[vg,vp] w fun e w'=>e=.returned (.bool (Plain.pR g p))/\ag [] w w':=by
 obtain⟨eo,cap,ao,ac,bo,bc,rfl,rfl,HG,HP,hm,DA,sQ,Bq,uE,S4,Ko,b8,dh⟩:=lN hg hp;clear hg hp;obtain⟨x0,x1,y0,y1,dj⟩:=dh.out _ (ag.refl _ _)
 go_enter Tryz.func27,Tryz.ntmps27
 go_wp2_with fail
 obtain⟨w1,qK⟩:∃ w1,((w.alloc (.cells #[.int .i64 g.n,.slice eo g.e.length cap] 24)).alloc (.cells #[.slice ao p.v.length ac,.slice bo p.e.length bc] 27))=w1:=⟨_,rfl⟩;rw[qK] at b8 dh ⊢;clear qK x0 x1 y0 y1 dj;refine (D4 _ _ _ g p [] _ (HG.out.fresh b8.out) (HP.out.fresh b8.out) (pE _)).mono ?_;rintro e w2 ⟨rfl,bA⟩;have cB:=lh (b8.out.tr bA);obtain⟨x0,x1,y0,y1,dj⟩:=dh.out _ bA;have fZ:=lh (show Plain.pR g p=(Plain.jv g p []&&decide (p.e.length<=24)&&decide (p.v.length<=20)) from rfl);clear bA;cases hb:Plain.jv g p [] with
 | false =>
  rw[hb] at fZ;rw[show bit false=0 from rfl];clear hb;go_wp2;go_ret;exact⟨bm (by rw[fZ.out];first | rfl | simp <;> omega),cB.out⟩
 | true =>
  rw[hb] at fZ;rw[show bit true=1 from rfl];clear hb;by_cases h1:p.e.length<=24
  ·have e1:decide (p.e.length<=24)=true:=decide_eq_true h1
   have i1:(p.e.length:Int)<=24:=by omega
   rw[e1] at fZ;by_cases h2:p.v.length<=20
   ·have e2:decide (p.v.length<=20)=true:=decide_eq_true h2
    have i2:(p.v.length:Int)<=20:=by omega
    rw[e2] at fZ;go_wp2;go_ret;exact⟨bm (by rw[fZ.out];first | rfl | simp <;> omega),cB.out⟩
   have e2:decide (p.v.length<=20)=false:=decide_eq_false h2;have i2:¬ (p.v.length:Int)<=20:=by omega
   rw[e2] at fZ;go_wp2;go_ret;exact⟨bm (by rw[fZ.out];first | rfl | simp <;> omega),cB.out⟩
  have e1:decide (p.e.length<=24)=false:=decide_eq_false h1;have i1:¬ (p.e.length:Int)<=24:=by omega
  rw[e1] at fZ;go_wp2;go_ret;exact⟨bm (by rw[fZ.out];first | rfl | simp <;> omega),cB.out⟩
end Go.Proofs.YtoiflofhcmjpoaaGreat
namespace Go.Proofs.YtoiflofhcmjpoaaGreat.Plain
def par (f:Int->Bool):List Int->Bool
 | []=>false
 | d :: l=>f d ^^ par f l
section
variable (b : Int -> Int) (c : Int -> Bool)
end
variable {b : Int -> Int} {c : Int -> Bool}
structure aty (g:Gr) (p:Pt) (aa:List (List Int)):Prop where
 pe:p.err g=0
 nQ:aR g p aa
 full:∀ v∈p.v,∃ d∈p.ah,g.tail d=v
 vR:∀ u∈p.v,∀ v∈p.v,b9 g p (-1) u v
 aiJ:∃ F,bw (aG g aa) F/\F.flatten.Perm p.ah/\p.v.length+F.length=2+p.e.length
def deg (aa:List (List Int)) (c:Int->Bool) (v:Int):Bool:=par (fun d=>c (d / 2)) (az aa v)
structure Col (g:Gr) (p:Pt) (aa:List (List Int)) (c χ:Int->Bool):Prop where
 next:∀ d∈p.ah,χ (aG g aa d)=χ d
 aT:∀ d∈p.ah,χ (aT d)=(χ d ^^ c (d / 2))
variable {g : Gr} {p : Pt} {aa : List (List Int)}
structure amL (g:Gr) (p:Pt) (aa:List (List Int)):Prop where
 pe:p.err g=0
 nQ:aR g p aa
 full:∀ v∈p.v,∃ d∈p.ah,g.tail d=v
 vR:∀ u∈p.v,∀ v∈p.v,b9 g p (-1) u v
 aqp:∀ c:Int->Bool,(∀ v∈p.v,deg aa c v=false)->∃ χ,Col g p aa c χ
section
variable {c k χ ψ : Int -> Bool}
end
variable {g : Gr} {b q : Pt} {aa : List (List Int)}
structure asF (g:Gr) (b:Pt) (on:Int->Bool) (S:List Int):Prop where
 LH:GO g on S
 shut:∀ e∈S,∀ f∈b.e,Lk g on e f->f∈S
 sub:∀ e∈S,e∈b.e
structure afp (g:Gr) (b:Pt) (aa:List (List Int)) (on:Int->Bool) (S:List Int) (c:Int->Bool) (x y:Int):Prop where
 aik:∀ e,c e=true->e∈S
 deg:∀ v∈b.v,deg aa c v=(decide (x=v) ^^ decide (y=v))
 one:∃ q∈b.ah,g.tail q=x/\q / 2∈S/\∀ u∈b.ah,g.tail u=x->c (u / 2)=decide (u=q)
 none:∀ v,on v=true->v≠x->v≠y->∀ u∈b.ah,g.tail u=v->c (u / 2)=false
structure ael (g:Gr) (b:Pt) (aa:List (List Int)) (on:Int->Bool) (S:List Int) (m v:Int) (c:Int->Bool):Prop where
 aik:∀ e,c e=true->e∈S
 deg:∀ u∈b.v,Plain.deg aa c u=(decide (m=u) ^^ decide (v=u))
 one:on v=true->∃ q∈b.ah,g.tail q=v/\q / 2∈S/\∀ u∈b.ah,g.tail u=v->c (u / 2)=decide (u=q)
 none:∀ w,on w=true->w≠v->∀ u∈b.ah,g.tail u=w->c (u / 2)=false
variable {g : Gr} {b : Pt} {aa : List (List Int)} {on : Int -> Bool} {S : List Int}
structure aq7 (g:Gr) (b:Pt) (on:Int->Bool) (C1 C2:List Int) (x y:Int):Prop where
 l1:kg g x C1 y
 l2:kg g y C2 x
 ne:x≠y
 tn:((C1++C2).map g.tail).Nodup
 en:((C1++C2).map (· / 2)).Nodup
 dr:∀ d∈C1++C2,d∈b.ah
 on:∀ d∈C1++C2,on (g.tail d)=true
variable {g : Gr} {b : Pt} {aa : List (List Int)} {on : Int -> Bool} {C1 C2 : List Int} {x y : Int}
theorem m1 {C1 C2:List Int} {d:Int} (h:d∈C1):d∈C1++C2:=by grind
theorem m2 {C1 C2:List Int} {d:Int} (h:d∈C2):d∈C1++C2:=by grind
def WC (L M:List Int):Prop:=∃ U V,L=U++V/\M=V++U
def Crs (L S T:List Int):Prop:=∃ x∈S,∃ y∈S,∃ z∈T,∃ w∈T,∃ A B,WC L (x :: A++y :: B)/\z∈A/\w∈B
def Tri (S T:List Int):Prop:=∃ x y z,(x∈S/\x∈T)/\(y∈S/\y∈T)/\(z∈S/\z∈T)/\x≠y/\y≠z/\x≠z
def ajv (L S T:List Int):Prop:=Crs L S T\/Tri S T
structure amN (g:Gr) (b:Pt) (on:Int->Bool) (C:List Int):Prop where
 link:∃ x,kg g x C x
 tn:(C.map g.tail).Nodup
 en:(C.map (· / 2)).Nodup
 dr:∀ d∈C,d∈b.ah
 on:∀ d∈C,on (g.tail d)=true
variable {g : Gr} {b : Pt} {aa : List (List Int)} {on : Int -> Bool} {C S T : List Int}
variable {g : Gr} {p : Pt} {aa : List (List Int)} {F : List (List Int)} {f k : List Int} {x y : Int}
structure aks (g:Gr) (p:Pt) (aa:List (List Int)) (o:Int) (A:List Int) (t:Int) (B:List Int):Prop where
 ring:Ring (aG g aa) (o :: A++t :: B)
 tn:((o :: A++t :: B).map g.tail).Nodup
 dr:∀ d∈o :: A++t :: B,d∈p.ah
def mk2 (M K:List Int) (d:Int):Bool:=decide (d∈M) ^^ decide (d∈K)
structure anU (g:Gr) (p:Pt) (aa:List (List Int)) (F:List (List Int)) (M K:List Int) (x y:Int) (φ:Int->Bool):Prop where
 sym:∀ d∈p.ah,φ (aT d)=φ d
 next:∀ d∈p.ah,(φ (aG g aa d) ^^ mk2 M K (aG g aa d))=(φ d ^^ mk2 M K d)
variable {M K : List Int} {φ : Int -> Bool}
variable {g : Gr} {p : Pt} {aa : List (List Int)} {F : List (List Int)} {f k j : List Int}
end Go.Proofs.YtoiflofhcmjpoaaGreat.Plain
