/- package walk: the contract of leaving: of each iq the ah that leave it. Conditions: a right part that lies in memory and reads so. -/
import Derived.Test.YtoiflofhcmjpoaaGreatF9Row
import Derived.Test.YtoiflofhcmjpoaaGreatF9GraphB
import Derived.ArgAppend
import Derived.Deep.LoopGhost
set_option maxHeartbeats 2000000
open Go.Value renaming ownBlock→Qa,slice→Qd
open Or renaming inl→Qb,inr→Qc
open Go.World renaming frozen?→Qe,ownsInts_nil→Qf
open Nat renaming le_trans→Qg
open List renaming mem_append→Qh,mem_cons→Qi,getD→Qj
-- READS ONLY
namespace Go.Proofs.YtoiflofhcmjpoaaGreat
open Plain
open Go.RowKit Go.Maps
variable {x z:Int} {w w':World} {H g B:Nat} {v:Value} {q:List Int} {cur cs:Array Value}
namespace Plain
def outs (g:Gr) (p:Pt) (k:Nat) (v:Int):List Int:=(Pt.ah ⟨[],p.e.take k⟩).filter λd=>decide (g.tail d=v)
theorem BM (g:Gr) (p:Pt):outs g p 0=λ_=>[]:=by grind [outs,Pt.ah]
theorem OA {g:Gr} {p:Pt} {k e:Nat} (hk:k<p.e.length) (he:p.e.getD k 0=(e:Int)) :
  outs g p (k+1)=λv=>outs g p k v++((if (g.ends e).1=v then [2*(e:Int)] else [])++(if (g.ends e).2=v then [2*(e:Int)+1] else [])):=by
 funext v
 have e1:p.e.take (k+1)=p.e.take k++[(e:Int)]:=by
  rw[List.take_succ_eq_append_getElem hk,<-he]
  grind
 grind [outs,Pt.ah,Gr.ends,kO,mS]
theorem Fh (g:Gr) (p:Pt) (v:Int):outs g p p.e.length v=p.ah.filter λd=>decide (g.tail d=v):=by
 unfold outs;rw[List.take_length];rfl
end Plain
theorem F8 (g:Plain.Gr) (p:Plain.Pt) (k:Nat) (v:Int):(outs g p k v).length<=2*k:=by
 grind [outs,ct]
theorem WE (f:Int->List Int) (a z s t:Int):(λy=>if y=z then (if z=a then f a++[s] else f z)++[t] else (if y=a then f a++[s] else f y))=λv=>f v++((if a=v then [s] else [])++(if z=v then [t] else [])):=by
 all_goals grind
theorem dI (w:World) (hx:bF x):aI (w.alloc (.cells #[.int .i64 x] 3)) (.slice (some ⟨w.heap.size,0,none⟩) 1 1) [x]:=by
 refine⟨_,1,rfl,by grind,by simp,λ_=>⟨w.heap.size,0,rfl,λi hi=>?_⟩⟩;have:i=0:=by simpa using hi
 subst this;rw[cell_of_row _ _ _ _ _ _ (heap_alloc_new w _)];rfl
theorem G3 (vg vp:Value) (g:Plain.Gr) (p:Plain.Pt) (w:World) (mE:p.e.length<=1000000) (hr:p.err g=0) (hg:cA w vg g) (hp:dt w vp p) :
  Calls Tryz.prog 168 #[vg,vp] w λe w'=>∃ b,e=.returned (.map (some b))/\SMap w' b (2*p.e.length) (λv=>p.ah.filter λd=>decide (g.tail d=v))/\ai [] w w'/\w.heap.size<=b:=by
 obtain⟨jw,hrv,AF,-⟩:=Plain.Pt.aF hr;obtain⟨hn0,J8,iM,dp⟩:=Plain.Gr.aF jw;have sJ:=lh AF;obtain⟨eo,cap,rfl,hn,hm,fx,aS⟩:=hg;obtain⟨v1,v2,rfl,hv,he⟩:=hp;obtain⟨ao,ac,rfl,-,-,-⟩:=hv;obtain⟨bo,bc,rfl,xW,oJ,gh⟩:=he;have oe:=lh aS;have nG:=lh gh;have iL:=lh fx;have ze:=@run_makeMap Tryz.prog;obtain⟨iz,gY,dD⟩:=iW w #[.int .i64 g.n,.slice eo g.e.length cap] #[.slice ao p.v.length ac,.slice bo p.e.length bc] 24 27;have x1:=(cell_of_row _ _ 1 _ _ _ iz).trans (show _=some (Qd eo g.e.length cap) from rfl);have y1:=(cell_of_row _ _ 1 _ _ _ gY).trans (show _=some (Qd bo p.e.length bc) from rfl);have X1:=lh x1;have Y1:=lh y1;have aY:=lh dD;clear aS gh fx dp AF hrv jw hr xW hn iz gY dD x1;have HM:=lh (SMap.made ((w.alloc (.cells #[.int .i64 g.n,.slice eo g.e.length cap] 24)).alloc (.cells #[.slice ao p.v.length ac,.slice bo p.e.length bc] 27)));have y1n:=λo=>fO y1 o;go_enter Tryz.func168,Tryz.ntmps168;go_wp2;clear ze y1 y1n;have bs:((w.alloc (.cells #[.int .i64 g.n,.slice eo g.e.length cap] 24)).alloc (.cells #[.slice ao p.v.length ac,.slice bo p.e.length bc] 27)).heap.size=w.heap.size+1+1:=by simp
 rw[bs] at HM;generalize gu:((w.alloc (.cells #[.int .i64 g.n,.slice eo g.e.length cap] 24)).alloc (.cells #[.slice ao p.v.length ac,.slice bo p.e.length bc] 27))=w1 at *;clear gu;obtain⟨mb,EN⟩:∃ mb,w.heap.size+1+1=mb:=⟨_,rfl⟩;rw[EN] at HM bs ⊢;have Zr:w.heap.size<=mb:=by omega
 generalize w.heap.size+1=pb at *;generalize UZ:w.heap.size=gb at *;go_loopw [14] (λc wr=>∃ k:Nat,k<=p.e.length/\c=.int .i64 k/\ai [] w1 wr/\SMap wr mb (2*k) (outs g p k)) (λc _=>p.e.length - (intOf c).toNat);case atStart=>exact⟨0,Nat.zero_le _,rfl,(ai.refl [] w1).alloc _,by rw[BM];exact HM.out⟩
 case round =>
  obtain⟨k,hk,rfl,hc,fx⟩:=hrel;have HC:=lh hc;have HS:=lh fx;by_cases aW:k<p.e.length
  ·obtain⟨bb,eO,rfl,oG⟩:=nG.out (by grind)
   have ce:=hc.c (aY.out.c (oG k aW));have AF:=cG sJ.out aW;obtain⟨ei,mN⟩:∃ ei:Nat,p.e.getD k 0=(ei:Int):=⟨(p.e.getD k 0).toNat,by omega⟩;have HO:=lh (OA (g:=g) aW mN);rw[mN] at ce AF;have xl:ei<g.e.length:=by omega
   have ay2:(ei:Int)<=1024:=by omega
   obtain⟨eb,cR,rfl,fs,dD⟩:=oe.out ei xl;obtain⟨z1,z2⟩:=iL.out ei xl;have C0:=lh (aY.out.c fs);have C1:=lh (aY.out.c dD);clear oG hc AF mN fs dD fx;generalize (g.ends ei).1=x at *;generalize (g.ends ei).2=y at *;go_wp2;clear ce;have aG:(λw':World=>w'.cell? ⟨gb,1,none⟩=some (.slice (some ⟨eb,cR,none⟩) g.e.length cap)/\w'.cell? ⟨eb,cR+ei*2,none⟩=some (.int .i64 x)/\w'.cell? ⟨eb,cR+ei*2+1,none⟩=some (.int .i64 y)) wr.drew:=⟨HC.out.drew.c X1.out,HC.out.drew.c C0.out,HC.out.drew.c C1.out⟩;refine al (λw':World=>w'.cell? ⟨gb,1,none⟩=some (.slice (some ⟨eb,cR,none⟩) g.e.length cap)/\w'.cell? ⟨eb,cR+ei*2,none⟩=some (.int .i64 x)/\w'.cell? ⟨eb,cR+ei*2+1,none⟩=some (.int .i64 y)) [0,1,2,3,4,5,6,7,8,9,10,11,12,13] (Way.line [0,1,2,3,4,5,6,7,8,9,10,11,12,13] .done) (by kernel_rfl) (by kernel_rfl) ?_;simp only[Way.line]
   repeat (refine aj (v:=?_) rfl (by rfl) (by rfl) (λ_ _ _ h=>h) aG (λw' aB=>?_) ?_;rotate_left;(focus ((try dsimp only at aB);go_simp;try with_reducible rfl));simp only[Act.put,Z1,Z2,Z3,Z4,Z5,Z6])
   refine ar ?_;clear aG;have sI:=lh (show SMap wr.drew mb (2*k) (outs g p k) from HS.out);have bU:=lh HC.out.drew;have I1:bF (2*(ei:Int)):=by grind [bF.mk]
   have I2:bF (2*(ei:Int)+1):=by grind [bF.mk]
   generalize wr.drew=wd at *;have Eu:=lh (λv=>F8 g p k v);generalize outs g p k=f0 at *;have qk:=lh bs;have T7:True:=trivial;have ahQ:True:=trivial;have afZ:True:=trivial;clear HS HC bs;go_wp2_with (first
    | (at_lookup;have _t:=T7;refine zg rfl _ _ rfl sI.out (by omega) rfl z1 rfl ?_;intro v1 r1 l1 b1;clear T7;have R1:=lh r1;have B1:=lh b1;clear r1 l1 b1)
    | (at_builtin;have _t:=ahQ;refine cH rfl _ _ rfl (B:=mb+1) rfl rfl (R1.out.aL ((ai.refl [] _).alloc _) (by simp)) (dI _ I1) (by have:=sI.out.lt;simp;omega) (by have:=Eu.out x;simp;omega) ?_;intro u1 w2 q1 c1 f1;clear ahQ;have Q1:=lh q1;have D1:=lh (((ai.refl (aC v1) wd).alloc (.cells #[.int .i64 (2*(ei:Int))] 3)).trans c1 (λj hj=>Qb hj));have F1:=lh (λj hj=>(f1 j hj).imp id (λh=>Qg ((ai.refl [] wd).alloc (.cells #[.int .i64 (2*(ei:Int))] 3)).size h));clear q1 c1 f1)
    | (at_mapUpdate;have _t:=afZ;refine yi rfl _ _ _ rfl B1.out rfl rfl rfl Q1.out D1.out F1.out ?_;intro w3 s3 d3;clear afZ;have S3:=lh s3;have D3:=lh d3;clear s3 d3)
    | (at_lookup;refine zg rfl _ _ rfl S3.out (by omega) rfl z2 rfl ?_;intro v4 r4 l4 b4;have R4:=lh r4;have L4:=lh l4;have B4:=lh b4;clear r4 l4 b4)
    | (at_builtin;refine cH rfl _ _ rfl (B:=mb+1) rfl rfl (R4.out.aL ((ai.refl [] _).alloc _) (by simp)) (dI _ I2) (by have:=S3.out.lt;simp;omega) (by have:=L4.out;simp;omega) ?_;intro u5 w5 q5 c5 f5;have Q5:=lh q5;have D5:=lh (((ai.refl (aC v4) w3).alloc (.cells #[.int .i64 (2*(ei:Int)+1)] 3)).trans c5 (λj hj=>Qb hj));have F5:=lh (λj hj=>(f5 j hj).imp id (λh=>Qg ((ai.refl [] w3).alloc (.cells #[.int .i64 (2*(ei:Int)+1)] 3)).size h));clear q5 c5 f5)
    | (at_mapUpdate;refine yi rfl _ _ _ rfl B4.out rfl rfl rfl Q5.out D5.out F5.out ?_;intro w6 s6 d6;have S6:=lh s6;have D6:=lh d6;clear s6 d6))
   have Nh:∀ j∈aC v1,w1.heap.size<=j:=λj hj=>by have:=(R1.out.low j (by rw[<-R1.out.aC];exact hj)).1;have:=qk.out;omega
   have VP:∀ j∈aC v4,w1.heap.size<=j:=λj hj=>by have:=(R4.out.low j (by rw[<-R4.out.aC];exact hj)).1;have:=qk.out;omega
   have aa2:∀ j∈[mb],j∈([]:List Nat)\/w1.heap.size<=j:=λj hj=>Qc (by have:=qk.out;simp at hj;omega);have fC:=lh ((((bU.out.trans D1.out (λj hj=>Qc (Nh j hj))).trans D3.out aa2).trans D5.out (λj hj=>Qc (VP j hj))).trans D6.out aa2);have HS6:=lh (show SMap w6 mb (2*(k+1)) (outs g p (k+1)) by rw[HO.out,<-WE f0 x y];exact S6.out);clear Nh VP aa2;go_wp2;go_roundw;case rel=>exact⟨k+1,by omega,by go_num,fC.out,HS6.out⟩
   case measure=>simp[intOf];omega
  have e:k=p.e.length:=by omega
  subst e;have HF:=lh (show SMap wr mb (2*p.e.length) (λv=>p.ah.filter λd=>decide (g.tail d=v)) by have:=HS.out;rwa[show outs g p p.e.length=λv=>p.ah.filter λd=>decide (g.tail d=v) from funext (Fh g p)] at this);clear fx hc;go_wp2;go_ret;exact⟨mb,rfl,HF.out,aY.out.t HC.out,by grind⟩
def jW (w:World) (H:Nat) (v:Value) (q:List Int):Prop :=
 (∀ x∈q,bF x)/\q.length<4294967296 /\
 ((v=.slice none 0 0/\q=[])\/∃ g off cap cur,v=.slice (some ⟨g,off,none⟩) q.length cap/\H<=g/\w.heap[g]?=some (.cells cur 3 (0,0))/\q.length<=cap/\cap<=9223372036854775807/\off+cap<=cur.size /\
  ∀ i,i<q.length->cur[off+i]?=some (.int .i64 (q.getD i 0)))
theorem jW.aL {own:List Nat} (h:jW w H v q) (hc:ai own w w') (hn:∀ b∈v.ownBlock.toList,b ∉ own):jW w' H v q:=by
 obtain⟨h1,h2,h3⟩:=h;refine⟨h1,h2,h3.imp id ?_⟩;rintro ⟨g,off,cap,cur,rfl,k1,k2,k3⟩;exact⟨g,off,cap,cur,rfl,k1,hc.heap k2 (hn g (by simp[Qa])),k3⟩
theorem jW.uL (h:aw w H v q):jW w H v q:=by
 refine⟨h.2.1,h.2.2,?_⟩;rcases h.1.2 with ⟨rfl,h0⟩ | ⟨g,cap,cur,rfl,hg,hh,Dc,kB,ja,hys⟩
 ·exact Qb ⟨rfl,List.length_eq_zero_iff.1 h0⟩
 refine Qc ⟨g,0,cap,cur,rfl,hg,hh,Dc,kB,by omega,λi hi=>?_⟩;have q1:(ints q)[i]?=some (.int .i64 (q.getD i 0)):=by simp[ints,Qj,hi]
 rw[<-hys,List.getElem?_take,if_pos (by omega)] at q1;rw[Nat.zero_add];simpa using q1
theorem ab7 {off:Nat} (hh:w.heap[g]?=some (.cells cur 3 (0,0))) (hq:∀ i,i<q.length->cur[off+i]?=some (.int .i64 (q.getD i 0))):∀ j u,(ints q)[j]?=some u->w.cell? ⟨g,off+j,none⟩=some u:=by
 intro j u hj;have pr:j<q.length:=by have:=(List.getElem?_eq_some_iff.1 hj).1;simpa[ints] using this
 rw[cell_of_row w g (off+j) cur _ _ hh,hq j pr,<-hj]
 grind [ints]
theorem Tn (hq:jW w H v q) (hx:bF x) (hH:H<=w.heap.size) (hn:q.length+1<4294967296) (ty:TypeId) :
  ∃ v' w',(Builtin.append_ #[25,25] ty #[v,.slice (some ⟨w.heap.size,0,none⟩) 1 1]).run Tryz.prog (w.alloc (.cells #[.int .i64 x] 3))=.ok v' w'/\jW w' H v' (q++[x])/\ai v.ownBlock.toList w w':=by
 obtain⟨h1,h2,h3⟩:=hq;have qJ:ai [] w (w.alloc (.cells #[.int .i64 x] 3)):=(ai.refl [] w).alloc _;have bs:(w.alloc (.cells #[.int .i64 x] 3)).heap.size=w.heap.size+1:=by simp
 obtain⟨i0,hi,Er,kA,uC⟩:=info_parts cM.hi;have Ay:∀ y∈q++[x],bF y:=λy hy=>(Qh.1 hy).elim (h1 y) (λe=>by grind);have hlen:(q++[x]).length<4294967296:=by simp;omega
 have vR:∀ j u,[Value.int .i64 x][j]?=some u->(w.alloc (.cells #[.int .i64 x] 3)).cell? ((⟨w.heap.size,0,none⟩:Addr).add j)=some u:=cell_one_new w _ _;rcases h3 with ⟨rfl,rfl⟩ | ⟨g,off,cap,cur,rfl,hg,hh,Dc,kB,hoc,ja⟩
 ·obtain⟨g,c,w',hr,r1,r2,-⟩:=qy cM (w0:=w) (B:=H) (v:=.slice none 0 0) (n:=0) (xs:=[]) (World.ownsRow_nil _ _ _ _) hH (cs:=#[.int .i64 x]) rfl (Rp x) (by omega) (Qb rfl) ty
  exact⟨_,w',hr,jW.uL ⟨by grind [ints],by grind,by simp⟩,r2⟩
 have hh1:=qJ.heap hh (by simp);by_cases ahz:q.length+1<=cap
 ·have hr:=run_append_room_cells (P:=Tryz.prog) (w.alloc (.cells #[.int .i64 x] 3)) 25 ty 3 i0 cM.ht hi g off q.length cap ⟨w.heap.size,0,none⟩ 1 1 [.int .i64 x] (by grind) vR (by intro u hu;simp at hu;subst hu;rfl) ahz
   (λj hj=>by
    have:j=0:=by simpa using hj
    subst this;have aW:off+q.length<cur.size:=by omega
    rw[kA,cell_of_row _ g _ cur _ _ hh1];simp[aW])
   (λj hj=>by simp[Qe,hh1])
  rw[kA,Nat.mul_one] at hr;have br:(w.alloc (.cells #[.int .i64 x] 3)).setCells g (off+q.length) [.int .i64 x]=(w.alloc (.cells #[.int .i64 x] 3)).setCell ⟨g,off+q.length,none⟩ (.int .i64 x):=rfl;rw[br] at hr;refine⟨_,_,hr,⟨Ay,hlen,Qc ⟨g,off,cap,cur.setIfInBounds (off+q.length) (.int .i64 x),by simp,hg,heap_setCell_same hh1 _ _,by simp;omega,kB,by grind,λi hi=>?_⟩⟩,?_⟩
  ·by_cases e:i=q.length
   ·subst e
    simp[Qj,show off+q.length<cur.size by omega]
   have H8:i<q.length:=by simp at hi;omega
   rw[Array.getElem?_setIfInBounds_ne (by omega),ja i H8];simp[Qj,H8,List.getElem?_append_left H8]
  exact ((ai.refl _ w).alloc _).setCell (Qb (by simp[Qa])) _
 have hold:∀ j u,(ints q)[j]?=some u->(w.alloc (.cells #[.int .i64 x] 3)).cell? ((⟨g,off,none⟩:Addr).add j)=some u:=by
  intro j u hj;rw[Addr.add_lit]
  grind [ab7]
 obtain⟨v',w',hr,r1,r2⟩:=run_append_arg_grows (P:=Tryz.prog) (w.alloc (.cells #[.int .i64 x] 3)) 25 ty 3 i0 (.int .i64 0) 1 8 cM.ht hi Er kA uC cM.hz cM.h0 ⟨g,off,none⟩ q.length cap (ints q) (by simp[ints]) hold ⟨w.heap.size,0,none⟩ 1 1 [.int .i64 x] rfl vR (by omega) (by unfold maxLen;omega) (by omega);have aT:aw w' (w.heap.size+1) v' (q++[x]):=⟨by grind [ints],Ay,hlen⟩;exact⟨v',w',hr,jW.uL (aT.base (by omega)),(((ai.refl [] w).alloc _).grown r2 (by simp)).mono (by simp)⟩
theorem Mh {ops:Array Oper} {rest:List Oper} {o:Oper} {a:Act} {Q:Exit->Act->World->Prop} (hg:o.guard=none) (s x:Operand) (ho:o.op=.call { callee:=.builtin .append,args:=#[s,x],argTypes:=#[25,25] })
  (hs:a.eval s=v) (hx:a.eval x=.slice (some ⟨w.heap.size,0,none⟩) 1 1) (hq:jW w H v q) (hz:bF z) (hH:H<=w.heap.size) (hn:q.length+1<4294967296)
  (hK:∀ v' w',jW w' H v' (q++[z])->ai v.ownBlock.toList w w'->wpList Tryz.prog ops Q rest (a.put o.dst v') w'):wpList Tryz.prog ops Q (o :: rest) a (w.alloc (.cells #[.int .i64 z] 3)):=by
 refine wpList_plain hg λK Bm=>?_;obtain⟨v',w',hr,r1,r2⟩:=Tn hq hz hH hn o.type;unfold Oper.wp execOp;simp only[ho,resolve,invoke,builtin,Sem.run_bind,Sem.run_pure,Result.andThen_ok,List.map_toArray,List.map_cons,List.map_nil,hs,hx,hr];exact Bm _ _ (hK v' w' r1 r2)
def NL (w:World) (B H:Nat) (q:List Int):Prop:=∃ v,w.heap[B]?=some (.cells #[v] 25 (0,0))/\jW w H v q/\H<=B
def OO (w:World) (H:Nat) (own:List Nat):Prop:=∀ j∈own,H<=j/\∃ cs t r,w.heap[j]?=some (.cells cs t r)/\(t=3\/t=25)
theorem jW.own (h:jW w H v q):OO w H v.ownBlock.toList:=by
 intro j hj;rcases h.2.2 with ⟨rfl,-⟩ | ⟨g,off,cap,cur,rfl,hg,hh,-⟩
 ·simp[Qa] at hj
 simp[Qa] at hj
 grind
theorem jW.shape (h:jW w H v q):∃ ao c,v=.slice ao q.length c:=by
 rcases h.2.2 with ⟨rfl,rfl⟩ | ⟨g,off,cap,cur,rfl,-⟩
 all_goals grind
theorem jW.ne {r:Nat × Nat} (h:jW w H v q) (hb:w.heap[B]?=some (.cells cs 25 r)):∀ j∈v.ownBlock.toList,j≠B:=by
 intro j hj e;subst e;rcases h.2.2 with ⟨rfl,-⟩ | ⟨g,off,cap,cur,rfl,hg,hh,-⟩
 ·simp[Qa] at hj
 simp[Qa] at hj
 grind
theorem NL.aL {own:List Nat} (h:NL w B H q) (hc:ai own w w') (hn:∀ j∈own,∀ cs t r,w.heap[j]?≠some (.cells cs t r)):NL w' B H q:=by
 obtain⟨v,hb,hq,hH⟩:=h;refine⟨v,hc.heap hb (λe=>hn B e _ _ _ hb),hq.aL hc (λj hj e=>?_),hH⟩;obtain⟨-,cs,t,r,hh,-⟩:=hq.own j hj
 grind
theorem EJ (B H:Nat) (q:List Int) (x:Int) (w:World) (hx:bF x) (hH:H<=w.heap.size) (hn:q.length+1<4294967296) (h:NL w B H q) :
  Calls Tryz.prog 208 #[.int .i64 x,.pointer (some ⟨B,0,none⟩)] w λe w'=>e=.returned (.tuple #[])/\NL w' B H (q++[x])/\∃ own,OO w H own/\ai own w w':=by
 obtain⟨v,hb,hq,hHB⟩:=h;have c0:w.cell? ⟨B,0,none⟩=some v:=by rw[cell_of_row _ _ _ _ _ _ hb];rfl
 have z0:w.frozen? ⟨B,0,none⟩=false:=by simp[Qe,hb]
 have jq:=lh (hq.ne hb);have HOW:Hid (OO w H (B :: v.ownBlock.toList)):=by
  intro j hj;rcases Qi.1 hj with rfl | hj
  ·exact⟨hHB,_,_,_,hb,Qc rfl⟩
  exact hq.own j hj
 obtain⟨ao,c,rfl⟩:=hq.shape;have HQ:=lh hq;have HB:=lh hb;have HZ:=lh z0;have TS:=lh c0;clear hq hb;go_enter Tryz.func208,Tryz.ntmps208;go_wp2_with (at_builtin;refine Mh rfl _ _ rfl rfl rfl HQ.out hx hH hn ?_;intro v' w1 r1 c1;have NB:B ∉ (Qd ao q.length c).ownBlock.toList:=λe=>jq.out B e rfl;have k0:=c1.cell TS.out NB;have kz:=c1.frozen TS.out HZ.out NB;have KB:=lh (c1.heap HB.out NB);obtain⟨ao',c',rfl⟩:=r1.shape;have R1:=lh r1;have C1:=lh c1;clear r1 c1 NB);refine bodyPost_end (v:=.tuple #[]) (by simp[results,Tryz.results208,go_sem]) rfl ⟨rfl,⟨_,heap_setCell_same KB.out 0 _,?_,hHB⟩,_,HOW.out,?_⟩
 ·have hr:=R1.out.aL ((ai.refl [B] w1).setCell (p:=⟨B,0,none⟩) (Qb (by simp)) (.slice ao' (q++[x]).length c')) (λb hb=>by simpa using R1.out.ne KB.out b hb)
  simpa using hr
 exact ((show ai (Qd ao q.length c).ownBlock.toList w w1 from C1.out).mono (λj hj=>Qb (List.mem_cons_of_mem _ hj))).setCell (Qb (by simp)) _
theorem Jb (B H:Nat) (w:World) (h:NL w B H []) :
  Calls Tryz.prog 209 #[.pointer (some ⟨B,0,none⟩)] w λe w'=>e=.returned (.tuple #[.int .i64 0,.bool false])/\w=w':=by
 obtain⟨v,hb,hq,hHB⟩:=h;have c0:w.cell? ⟨B,0,none⟩=some v:=by rw[cell_of_row _ _ _ _ _ _ hb];rfl
 obtain⟨ao,c,rfl⟩:=hq.shape;rw[List.length_nil] at c0;clear hq hb;go_enter Tryz.func209,Tryz.ntmps209;go_wp2;exact bodyPost_ret (v:=.tuple #[.int .i64 0,.bool false]) (by simp[results,Tryz.results209,go_sem]) rfl ⟨rfl,rfl⟩
theorem Al (B H:Nat) (x:Int) (q:List Int) (w:World) (h:NL w B H (x :: q)) :
  Calls Tryz.prog 209 #[.pointer (some ⟨B,0,none⟩)] w λe w'=>e=.returned (.tuple #[.int .i64 x,.bool true])/\NL w' B H q/\∃ own,OO w H own/\ai own w w':=by
 obtain⟨v,hb,hq,hHB⟩:=h;have c0:w.cell? ⟨B,0,none⟩=some v:=by rw[cell_of_row _ _ _ _ _ _ hb];rfl
 have z0:w.frozen? ⟨B,0,none⟩=false:=by simp[Qe,hb]
 have jq:=hq.ne hb;have HOW:Hid (OO w H [B]):=by
  intro j hj
  grind
 obtain⟨h1,h2,h3⟩:=hq;rcases h3 with ⟨-,e⟩ | ⟨g,off,cap,cur,rfl,hg,hh,Dc,kB,hoc,ja⟩
 ·cases e
 have hgB:g≠B:=jq g (by simp[Qa]);have ch:w.cell? ⟨g,off,none⟩=some (.int .i64 x):=by
  rw[cell_of_row w g off cur _ _ hh];have:=ja 0 (by simp)
  grind
 simp only[List.length_cons] at c0 Dc h2;have fin:∀ xB gF,Hid (xB+gF<=cur.size/\q.length<=gF/\gF<=9223372036854775807/\∀ i,i<q.length->cur[xB+i]?=some (.int .i64 (q.getD i 0)))->Hid (NL (w.setCell ⟨B,0,none⟩ (.slice (some ⟨g,xB,none⟩) q.length gF)) B H q):=by
  intro xB gF hk;obtain⟨k1,k2,k3,k4⟩:=hk.out;refine lh ⟨_,heap_setCell_same hb 0 _,⟨λy hy=>h1 y (by simp[hy]),by omega,Qc ⟨g,xB,gF,cur,rfl,hg,?_,k2,k3,k1,k4⟩⟩,hHB⟩;exact ((ai.refl [B] w).setCell (p:=⟨B,0,none⟩) (Qb (by simp)) (.slice (some ⟨g,xB,none⟩) q.length gF)).heap hh (by grind)
 have Jw:(0:Int)<((q.length+1:Nat):Int):=by omega
 have Da:(((q.length+1:Nat):Int)==0)=false:=by rw[beq_eq_false_iff_ne];omega
 have yJ:q.length+1 - 1=q.length:=by omega
 by_cases oK:1=cap
 ·subst oK
  have hq0:q.length=0:=by omega
  have HF:=fin off 0 (lh ⟨by omega,by omega,by omega,λi hi=>by omega⟩);clear fin hb hh ja jq h1 hg;go_enter Tryz.func209,Tryz.ntmps209;go_wp2;refine bodyPost_ret (v:=.tuple #[.int .i64 x,.bool true]) (by simp[results,Tryz.results209,go_sem]) rfl ⟨rfl,?_,[B],HOW.out,(ai.refl _ w).setCell (Qb (by simp)) _⟩;have q9:=HF.out
  grind
 have HF:=fin (off+1) (cap - 1) (lh ⟨by omega,by omega,by omega,λi hi=>by
  have:=ja (i+1) (by simp;omega)
  grind⟩)
 clear fin hb hh ja jq h1 hg;go_enter Tryz.func209,Tryz.ntmps209;go_wp2;refine bodyPost_ret (v:=.tuple #[.int .i64 x,.bool true]) (by simp[results,Tryz.results209,go_sem]) rfl ⟨rfl,HF.out,[B],HOW.out,(ai.refl _ w).setCell (Qb (by simp)) _⟩
theorem OG (w:World) :
  Calls Tryz.prog 201 #[] w λe w'=>e=.returned (.tuple #[.func (.func 208) #[] #[.pointer (some ⟨w.heap.size,0,none⟩)],.func (.func 209) #[] #[.pointer (some ⟨w.heap.size,0,none⟩)]])/\NL w' w.heap.size w.heap.size []/\ai [] w w':=by
 have hmf:∀ (fn:Fn) (first cap:Array Value) (w:World),(Instr.makeFunc fn first cap).run Tryz.prog w=.ok (.func fn first cap) w:=λ_ _ _ _=>rfl;have HQ:Hid (NL (w.alloc (.cells #[.slice none 0 0] 25)) w.heap.size w.heap.size []):=⟨_,heap_alloc_new w _,⟨by simp,by simp,Qb ⟨rfl,rfl⟩⟩,Nat.le_refl _⟩;have HC:=lh ((ai.refl [] w).alloc (.cells #[.slice none 0 0] 25));go_enter Tryz.func201,Tryz.ntmps201;go_wp2;refine bodyPost_ret (v:=.tuple #[.func (.func 208) #[] #[.pointer (some ⟨w.heap.size,0,none⟩)],.func (.func 209) #[] #[.pointer (some ⟨w.heap.size,0,none⟩)]]) (by simp[results,Tryz.results201,go_sem]) rfl ⟨rfl,HQ.out,HC.out⟩
end Go.Proofs.YtoiflofhcmjpoaaGreat
namespace Go.Proofs.YtoiflofhcmjpoaaGreat.Plain
variable {p:Pt} {f:Int->Option Int} {x shut a u:Int} {g:Gr} {m:Nat}
def left (p:Pt) (f:Int->Option Int):Nat:=(p.v.filter λu=>(f u).isNone).length
theorem uq {c:Int} (hn:p.v.Nodup) (hx:x∈p.v) (hf:f x=none):left p (λy=>if y=x then some c else f y)+1=left p f:=by
 unfold left;generalize p.v=l at *;have none_:∀ {l:List Int},x ∉ l->(l.filter λu=>(if u=x then some c else f u).isNone)=l.filter λu=>(f u).isNone:=by
  intro l hl;refine List.filter_congr λu hu=>?_
  grind
 induction l with
 | nil=>simp at hx
 | cons y l ih =>
  all_goals grind
structure Tl (g:Gr) (p:Pt) (shut a:Int) (f:Int->Option Int) (m:Nat):Prop where
 base:f a≠none
 J4:∀ u,f u≠none->bS g p shut a u
 PG:∀ u,f u≠none->u∈p.v
 val:∀ u c,f u=some c->0<=c/\c+(left p f:Int)<=p.v.length
 et:m+left p f<=p.v.length
def MQ (g:Gr) (p:Pt) (shut:Int) (f:Int->Option Int) (u:Int):Prop:=∀ x,om g p u x->x≠shut->f x≠none
theorem Tl.start (hp:aD g p) (ha:a∈p.v):Tl g p shut a (λy=>if y=a then some 0 else none) (0+1):=by
 have hl:=uq (f:=λ_=>none) (c:=0) hp.vn ha rfl;have h0:left p (λ_=>none)=p.v.length:=by unfold left;rw[List.filter_eq_self.2 (by simp)]
 refine⟨by simp,λu hu=>?_,λu hu=>?_,λu c hu=>?_,by omega⟩
 ·by_cases e:u=a
  ·subst e;exact .here
  simp[e] at hu
 all_goals grind
theorem Tl.add {v c:Int} (h:Tl g p shut a f m) (hp:aD g p) (hx:x∈p.v) (hn:om g p v x) (hs:x≠shut) (hv:f v=some c) (hf:f x=none):Tl g p shut a (λy=>if y=x then some (c+1) else f y) (m+1):=by
 have hl:=uq (f:=f) (c:=c+1) hp.vn hx hf;have hc:=h.val v c hv;have hm:=h.et;refine⟨?_,λu hu=>?_,λu hu=>?_,λu d hu=>?_,by omega⟩
 ·show (if a=x then some (c+1) else f a)≠none
  by_cases e:a=x
  ·simp[e]
  rw[if_neg e];exact h.base
 ·by_cases e:u=x
  ·subst e;exact (h.J4 v (by grind)).step hn hs
  exact h.J4 u (by grind)
 ·by_cases e:u=x
  ·subst e;exact hx
  exact h.PG u (by simpa[e] using hu)
 by_cases e:u=x
 ·simp[e] at hu;subst hu;omega
 have:=h.val u d (by simpa[e] using hu);omega
theorem MQ.add {c:Int} (h:MQ g p shut f u):MQ g p shut (λy=>if y=x then some c else f y) u:=by
 intro z hz hs;show (if z=x then some c else f z)≠none;by_cases e:z=x
 ·simp[e]
 rw[if_neg e];exact h z hz hs
theorem FP (_hp:aD g p) :om g p u x↔∃ d∈p.ah.filter λd=>decide (g.tail d=u),g.head d=x:=by
 constructor
 ·rintro ⟨e,he,h | h⟩
  ·have h1:=dP g e
   all_goals grind [au]
  have hd:2*e∈p.ah:=au.2 (by rwa[show 2*e / 2=e by omega]);have h1:=dP g e;refine⟨aH (2*e),List.mem_filter.2 ⟨bD hd,?_⟩,?_⟩
  all_goals grind [az,bg]
 all_goals grind [fW]
theorem Tl.all (h:Tl g p shut a f m) (hd:∀ u,f u≠none->MQ g p shut f u) (v:Int):f v≠none↔bS g p shut a v:=by
 refine⟨h.J4 v,λhc=>?_⟩
 induction hc with
 | here=>exact h.base
 | step _ hn hs ih=>exact hd _ ih _ hn hs
end Go.Proofs.YtoiflofhcmjpoaaGreat.Plain
namespace Go.Proofs.YtoiflofhcmjpoaaGreat
open Plain
open Go.RowKit Go.Maps
variable {w w' wr:World} {b n m fuel:Nat} {f:Int->Option Int} {k v shut:Int} {ops:Array Oper} {rest:List Oper} {o:Oper} {a:Act} {Q:Exit->Act->World->Prop} {g:Plain.Gr} {p:Plain.Pt} {q L:List Int}
theorem SMap.fresh {f:Int->List Int} (h:SMap w b n f) (hc:ai [] w w'):SMap w' b n f:=by
 obtain⟨D,ho,hD⟩:=h;refine⟨D,?_,hD⟩;have hb:b<w.heap.size:=SMap.lt ⟨D,ho,hD⟩;exact ho.kept (hc.grownBy (row:=none) (by simp)) (by simp) (λes clock he x hx=>by cases x.val.ownBlock <;> simp)
theorem dx.VW (h:dx w b n f) (hn:n<maxLen) (hk:bF k) (hv:bF v) :
  ∃ w',(Instr.mapUpdate 124 (.map (some b)) (.int .i64 k) (.int .i64 v)).run Tryz.prog w=.ok () w'/\dx w' b (n+1) (λy=>if y=k then some v else f y)/\w.grownBy w' (some b):=by
 obtain⟨D,b9,hD⟩:=h;obtain⟨w',hr,h1,h2⟩:=b9.update dX Tryz.underlying124 hn (keyOf_int_mk Tryz.underlying3 hk) (plainElem_int Tryz.underlying3 hv);refine⟨w',hr,⟨_,h1,λy hy=>?_⟩,h2⟩;by_cases e:y=k
 ·subst e
  have rI:=dX.key (keyOf_int_mk Tryz.underlying3 hk);rw[has_put_same b9.isMap rI,atKey_put_same b9.isMap rI];simp
 rw[has_put_other (zA e),atKey_put_other (zA e)];simp only[if_neg e];exact hD y hy
theorem BS (hg:o.guard=none) (m x u:Operand) (sH:o.op=Op.insert 124 m x u) (h:dx w b n f) (hn:n<maxLen) (hm:a.eval m=.map (some b))
  (hk:bF k) (hv:bF v) (hx:a.eval x=.int .i64 k) (hu:a.eval u=.int .i64 v)
  (hK:∀ w',dx w' b (n+1) (λy=>if y=k then some v else f y)->w.grownBy w' (some b)->wpList Tryz.prog ops Q rest (a.put o.dst undef) w'):wpList Tryz.prog ops Q (o :: rest) a w:=by
 refine wpList_plain hg λK Bm=>?_;obtain⟨w',hr,h1,h2⟩:=h.VW hn hk hv;have OV:=Bm (a.put o.dst undef) w' (hK w' h1 h2);unfold Oper.wp;simp[execOp,sH,hm,hx,hu,hr,Result.andThen,Oper.upon];exact OV
theorem SMap.Fa {f:Int->List Int} (h:SMap w b n f) (hc:ai [] w wr) (hn:n<4294967296) (hk:bF k) :
  ∃ v,(Instr.lookup 97 (.map (some b)) (.int .i64 k) false).run Tryz.prog wr=.ok v wr/\aw w (b+1) v (f k):=by
 obtain⟨D,ho,hD⟩:=h;have KK:=keyOf_int_mk Tryz.underlying3 hk;obtain⟨es,clock,hb,F,hs,hDe,Ib,hlen,fy⟩:=ho;have PE:=hc.heap hb (by simp);rcases Maps.fit_look false dX Tryz.underlying97 (DT wr) PE F KK with ⟨ke,_,eJ⟩ | ⟨e0,y,hm0,h3,ke,hR,eJ,_⟩
 ·refine⟨_,ke,?_⟩
  have Hl:=eJ .nil;rw[<-hDe] at Hl;have e:=SMap.list (v:=.slice none 0 0) (zs:=[]) (hD k hk) Hl (Qf w (b+1) 3 .i64);rw[<-e];exact tU (Qf _ _ _ _) (by simp)
 obtain⟨zs,VT,rfl⟩:=rowElem_inv hR;have Hl:=eJ .nil;rw[<-hDe] at Hl;have e:=SMap.list (hD k hk) Hl VT;subst e;exact⟨_,ke,tU VT (by have:=hlen e0 hm0 _ VT;omega)⟩
theorem tS {w0:World} (hg:o.guard=none) (m x:Operand) (sH:o.op=Op.lookup 97 m x false) {f:Int->List Int} (h:SMap w0 b n f) (hc:ai [] w0 w) (hn:n<4294967296) (hm:a.eval m=.map (some b)) (hk:bF k) (hx:a.eval x=.int .i64 k)
  (hK:∀ v,aw w0 (b+1) v (f k)->wpList Tryz.prog ops Q rest (a.put o.dst v) w):wpList Tryz.prog ops Q (o :: rest) a w:=by
 refine wpList_plain hg λK' Bm=>?_;obtain⟨v,ke,r1⟩:=h.Fa hc hn hk;unfold Oper.wp;simp[execOp,sH,hm,hx,ke,Result.andThen];exact Bm _ _ (hK v r1)
structure vH (w:World) (gb mp H:Nat) (gv:Array Value) (f:Int->Option Int) (m:Nat) (q:List Int) (wr:World):Prop where
 queue:NL wr H H q
 aL:ai [] w wr
 map:dx wr mp m f
 box:wr.heap[gb]?=some (.cells gv 24 (0,0))
section
variable {w wr w' : World} {gb mp H : Nat} {gv : Array Value} {f f' : Int -> Option Int} {m m' : Nat} {q q' : List Int}
theorem vH.aa (h:vH w gb mp H gv f m q wr) (hH:w.heap.size<=H) {own:List Nat} (hq:NL w' H H q') (ho:OO wr H own) (hc:ai own wr w'):vH w gb mp H gv f m q' w':=by
 refine⟨hq,h.aL.trans hc (λj hj=>Qc (Qg hH (ho j hj).1)),h.map.aL hc (λe=>?_),hc.heap h.box (λe=>?_)⟩
 ·obtain⟨_,cs,t,r,hh,_⟩:=ho _ e
  exact h.map.ne hh rfl
 obtain⟨_,cs,t,r,hh,ht⟩:=ho _ e;rw[h.box] at hh;simp at hh;obtain⟨_,e2,_⟩:=hh;rcases ht with q | q <;> (rw[<-e2] at q;revert q;decide)
theorem vH.fresh (h:vH w gb mp H gv f m q wr) (hc:ai [] wr w'):vH w gb mp H gv f m q w' :=
 ⟨h.queue.aL hc (by simp),h.aL.t hc,h.map.aL hc (by simp),hc.heap h.box (by simp)⟩
theorem vH.met (h:vH w gb mp H gv f m q wr) (Po:w.heap.size<=mp) (hm:dx w' mp m' f') (hg:wr.grownBy w' (some mp)):vH w gb mp H gv f' m' q w':=by
 have hc:ai [mp] wr w':=(ai.refl _ _).grown hg (λj hj=>by cases hj;exact Qb (by simp));refine⟨h.queue.aL hc (λj hj cs t r hh=>?_),h.aL.trans hc (λj hj=>Qc (by simp at hj;omega)),hm,hc.heap h.box (λe=>?_)⟩
 ·simp at hj
  subst hj;exact h.map.ne hh rfl
 simp at e;exact h.map.ne h.box e
end
def M3 (g:Plain.Gr) (p:Plain.Pt) (shut a:Int) (f:Int->Option Int) (m:Nat) (t:List Int) (fuel:Nat):Prop :=
 Plain.Tl g p shut a f m/\(∀ u∈t,f u≠none)/\(∀ u,f u≠none->u∈t\/Plain.MQ g p shut f u)/\2*Plain.left p f+t.length<=fuel
def L3 (g:Plain.Gr) (p:Plain.Pt) (shut a:Int) (f:Int->Option Int) (m:Nat) (v:Int) (q L:List Int) (k fuel:Nat):Prop :=
 Plain.Tl g p shut a f m/\f v≠none/\(∀ u∈q,f u≠none)/\(∀ u,f u≠none->u=v\/u∈q\/Plain.MQ g p shut f u)/\2*Plain.left p f+q.length+1<=fuel/\∀ i,i<k->g.head (L.getD i 0)=shut\/f (g.head (L.getD i 0))≠none
theorem M3.inner {a:Int} (h:M3 g p shut a f m (v :: q) fuel) (L:List Int):L3 g p shut a f m v q L 0 fuel:=by
 obtain⟨h1,h2,h3,h4⟩:=h;refine⟨h1,h2 v (by simp),λu hu=>h2 u (by simp[hu]),λu hu=>?_,by simp at h4;omega,by simp⟩;rcases h3 u hu with q | q
 ·rcases Qi.1 q with q | q
  ·exact Qb q
  exact Qc (Qb q)
 exact Qc (Qc q)
theorem L3.outer (hp:Plain.aD g p) {a:Int} (h:L3 g p shut a f m v q (p.ah.filter λd=>decide (g.tail d=v)) (p.ah.filter λd=>decide (g.tail d=v)).length fuel):M3 g p shut a f m q (fuel - 1):=by
 obtain⟨h1,h2,h3,h4,h5,h6⟩:=h;refine⟨h1,h3,λu hu=>?_,by omega⟩;rcases h4 u hu with e | e | e
 ·subst e
  right;intro x hx hs;obtain⟨d,hd,rfl⟩:=(Plain.FP hp).1 hx;obtain⟨i,hi,rfl⟩:=cr hd;exact (h6 i hi).resolve_left hs
 ·exact Qb e
 exact Qc e
theorem L3.skip {a:Int} {k:Nat} (h:L3 g p shut a f m v q L k fuel) (hk:g.head (L.getD k 0)=shut\/f (g.head (L.getD k 0))≠none):L3 g p shut a f m v q L (k+1) fuel:=by
 obtain⟨h1,h2,h3,h4,h5,h6⟩:=h;refine⟨h1,h2,h3,h4,h5,λi hi=>?_⟩;by_cases e:i=k
 ·subst e;exact hk
 exact h6 i (by omega)
theorem L3.add (hp:Plain.aD g p) {a x c:Int} {k:Nat} (h:L3 g p shut a f m v q L k fuel) (hk:g.head (L.getD k 0)=x) (hx:x∈p.v) (hn:Plain.om g p v x) (hs:x≠shut) (hv:f v=some c) (hf:f x=none) :
  L3 g p shut a (λy=>if y=x then some (c+1) else f y) (m+1) v (q++[x]) L (k+1) fuel:=by
 obtain⟨h1,h2,h3,h4,h5,h6⟩:=h;have hl:=Plain.uq (f:=f) (c:=c+1) hp.vn hx hf;have up:∀ u,f u≠none->(if u=x then some (c+1) else f u)≠none:=λu hu=>by by_cases e:u=x <;> simp[e];simpa[e] using hu
 refine⟨h1.add hp hx hn hs hv hf,up v h2,λu hu=>?_,λu hu=>?_,by simp;omega,λi hi=>?_⟩
 ·rcases Qh.1 hu with q | q
  ·exact up u (h3 u q)
  simp at q;subst q;simp
 ·by_cases e:u=x
  ·exact Qc (Qb (by simp[e]))
  rcases h4 u (by simpa[e] using hu) with q | q | q
  ·exact Qb q
  ·exact Qc (Qb (by simp[q]))
  exact Qc (Qc q.add)
 by_cases e:i=k
 ·subst e;right;rw[hk];simp
 exact (h6 i (by omega)).imp id (up _)
