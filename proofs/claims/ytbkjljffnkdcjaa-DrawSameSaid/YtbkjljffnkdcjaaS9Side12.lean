/- Beside one side of a cycle edges that hang together don't cross. No program here. -/
import Derived.Test.YtbkjljffnkdcjaaS9Col
namespace Go.Proofs.Ytbkjljffnkdcjaa.Plain
structure Arcs (g:Gr) (b:Pt) (on:Int→Bool) (C1 C2:List Int) (x y:Int):Prop where
 l1:Link g x C1 y
 l2:Link g y C2 x
 ne:x≠y
 tn:((C1++C2).map g.tail).Nodup
 en:((C1++C2).map (· / 2)).Nodup
 dr:∀ d∈C1++C2,d∈b.darts
 on:∀ d∈C1++C2,on (g.tail d)=true
variable {g : Gr} {b : Pt} {turn : List (List Int)} {on : Int → Bool} {C1 C2 : List Int} {x y : Int}
theorem Arcs.symm (h:Arcs g b on C1 C2 x y):Arcs g b on C2 C1 y x:=by
 have hp:(C2++C1).Perm (C1++C2):=List.perm_append_comm
 exact⟨h.l2,h.l1,Ne.symm h.ne,(hp.map _).nodup_iff.2 h.tn,(hp.map _).nodup_iff.2 h.en,fun d hd=>h.dr d (hp.mem_iff.1 hd),fun d hd=>h.on d (hp.mem_iff.1 hd)⟩
theorem heads_perm {x:Int} {l:List Int} (h:Link g x l x):(l.map g.head).Perm (l.map g.tail):=by
 cases l with
 | nil=>simp
 | cons d l =>
  rw[heads_tails h,List.map_cons,h.1]
  exact List.perm_append_comm (l₁:=l.map g.tail) (l₂:=[x])
theorem Arcs.link (h:Arcs g b on C1 C2 x y):Link g x (C1++C2) x:=Link.append.2 ⟨y,h.l1,h.l2⟩
theorem Arcs.hn (h:Arcs g b on C1 C2 x y):((C1++C2).map g.head).Nodup:=(heads_perm h.link).nodup_iff.2 h.tn
theorem Arcs.c1 (h:Arcs g b on C1 C2 x y):∃ o l,C1=o :: l∧g.tail o=x:=by
 cases hC:C1 with
 | nil=>have:=h.l1;rw[hC] at this;exact absurd this h.ne
 | cons o l=>exact⟨o,l,rfl,by have:=h.l1;rw[hC] at this;exact this.1⟩
theorem last_head {x y:Int} {l:List Int} (h:Link g x l y) (hne:x≠y):∃ m d,l=m++[d]∧g.head d=y:=by
 rcases List.eq_nil_or_concat l with q | ⟨m,d,q⟩
 ·rw[q] at h;exact absurd h hne
 rw[List.concat_eq_append] at q
 rw[q] at h ⊢
 exact⟨m,d,rfl,link_last h⟩
theorem Arcs.tail_one (h:Arcs g b on C1 C2 x y) {d e:Int} (hd:d∈C1++C2) (he:e∈C1++C2) (q:g.tail d=g.tail e):d=e:=inj_of_map h.tn d hd e he q
theorem Arcs.head_one (h:Arcs g b on C1 C2 x y) {d e:Int} (hd:d∈C1++C2) (he:e∈C1++C2) (q:g.head d=g.head e):d=e:=inj_of_map h.hn d hd e he q
theorem Arcs.twin_off (h:Arcs g b on C1 C2 x y) {d:Int} (hd:d∈C1++C2):twin d ∉ C1++C2:=fun q=>twin_ne d (inj_of_map h.en _ q _ hd (twin_div d))
theorem Arcs.nodup (h:Arcs g b on C1 C2 x y):(C1++C2).Nodup:=nodup_of_map h.tn
theorem Arcs.n1 (h:Arcs g b on C1 C2 x y):C1.Nodup:=(List.nodup_append.1 h.nodup).1
theorem Arcs.off1 (h:Arcs g b on C1 C2 x y) {d:Int} (h1:d∈C2):d ∉ C1:=fun q=>(List.nodup_append.1 h.nodup).2.2 d q d h1 rfl
theorem m1 {C1 C2:List Int} {d:Int} (h:d∈C1):d∈C1++C2:=List.mem_append.2 (Or.inl h)
theorem m2 {C1 C2:List Int} {d:Int} (h:d∈C2):d∈C1++C2:=List.mem_append.2 (Or.inr h)
theorem link_pairs {l:List Int} {x z:Int} (h:Link g x l z) {e:Int} (he:e∈l) (hne:g.tail e≠x):∃ d∈l,g.head d=g.tail e:=by
 obtain⟨A,B,rfl⟩:=List.append_of_mem he
 rcases List.eq_nil_or_concat A with q | ⟨A,d,q⟩
 ·rw[q] at h;exact absurd h.1 hne
 rw[List.concat_eq_append] at q
 subst q
 have h':Link g x (A++d :: e :: B) z:=by simpa using h
 exact⟨d,by simp,link_pair h'⟩
theorem chain_const {f:Int→Bool}:∀ {l:List Int},(∀ U d e V,l=U++d :: e :: V→f d=f e)→∀ d∈l,∀ e∈l,f d=f e
 | [],_,d,hd,_,_=>by simp at hd
 | [a],_,d,hd,e,he=>by rw[List.mem_singleton.1 hd,List.mem_singleton.1 he]
 | a :: c :: l,h,d,hd,e,he=>by
  have ih:=chain_const (l:=c :: l) (fun U d e V q=>h (a :: U) d e V (by rw[q];rfl))
  have h0:=h [] a c l rfl
  rcases List.mem_cons.1 hd with q | q <;> rcases List.mem_cons.1 he with r | r
  ·rw[q,r]
  ·rw[q,h0];exact ih c (by simp) e r
  ·rw[r,h0];exact ih d q c (by simp)
  exact ih d q e r
theorem Arcs.at1 (h:Arcs g b on C1 C2 x y) {u:Int}:chn C1 (u / 2)=(decide (u∈C1) ^^ decide (twin u∈C1)):=chn_dart h.n1 u
theorem Arcs.in1 (h:Arcs g b on C1 C2 x y) {d e u:Int} (hd:d∈C1) (he:e∈C1) (hde:g.head d=g.tail e) (hu:g.tail u=g.tail e):chn C1 (u / 2)=(decide (u=e) ^^ decide (u=twin d)):=by
 rw[h.at1]
 have e1:u∈C1↔u=e:=⟨fun q=>h.tail_one (m1 q) (m1 he) hu,fun q=>q ▸ he⟩
 have e2:twin u∈C1↔u=twin d:=⟨fun q=>by
  have:=h.head_one (m1 q) (m1 hd) (by rw[←tail_twin,twin_twin,hu,hde])
  rw[←this,twin_twin],fun q=>by rw[q,twin_twin];exact hd⟩
 rw[decide_eq_decide.2 e1,decide_eq_decide.2 e2]
theorem Arcs.at_x (h:Arcs g b on C1 C2 x y) {o u:Int} (ho:o∈C1) (hox:g.tail o=x) (hu:g.tail u=x):chn C1 (u / 2)=decide (u=o):=by
 rw[h.at1]
 have e1:u∈C1↔u=o:=⟨fun q=>h.tail_one (m1 q) (m1 ho) (hu.trans hox.symm),fun q=>q ▸ ho⟩
 have e2:twin u ∉ C1:=fun q=>by
  obtain⟨m,t,hm,ht⟩:=last_head h.l2 (Ne.symm h.ne)
  have:twin u=t:=h.head_one (m1 q) (m2 (by rw[hm];simp)) (by rw[←tail_twin,twin_twin,hu,ht])
  exact h.off1 (by rw[hm];simp) (this ▸ q)
 have e3:decide (u∈C1)=decide (u=o):=decide_eq_decide.2 e1
 rw[e3];simp[e2]
theorem Arcs.in2 (h:Arcs g b on C1 C2 x y) {d e u:Int} (hd:d∈C2) (he:e∈C2) (hde:g.head d=g.tail e) (hu:g.tail u=g.tail e):chn C1 (u / 2)=false:=by
 rw[h.at1]
 have e1:u ∉ C1:=fun q=>h.off1 he (h.tail_one (m1 q) (m2 he) hu ▸ q)
 have e2:twin u ∉ C1:=fun q=>h.off1 hd (h.head_one (m1 q) (m2 hd) (by rw[←tail_twin,twin_twin,hu,hde]) ▸ q)
 simp[e1,e2]
theorem Arcs.all (h:Arcs g b on C1 C2 x y) {d e u:Int} (hd:d∈C1++C2) (he:e∈C1++C2) (hde:g.head d=g.tail e) (hu:g.tail u=g.tail e):chn (C1++C2) (u / 2)=(decide (u=e) ^^ decide (u=twin d)):=by
 rw[chn_dart h.nodup]
 have e1:u∈C1++C2↔u=e:=⟨fun q=>h.tail_one q he hu,fun q=>q ▸ he⟩
 have e2:twin u∈C1++C2↔u=twin d:=⟨fun q=>by
  have:=h.head_one q hd (by rw[←tail_twin,twin_twin,hu,hde])
  rw[←this,twin_twin],fun q=>by rw[q,twin_twin];exact hd⟩
 rw[decide_eq_decide.2 e1,decide_eq_decide.2 e2]
theorem Arcs.side (hp:PartOk g b) (ht:TurnsOk g b turn) (h:Arcs g b on C1 C2 x y) {χ:Int→Bool} (hχ:Col g b turn (chn (C1++C2)) χ):∀ d∈C1++C2,∀ e∈C1++C2,χ d=χ e:=by
 refine chain_const fun U d e V hs=>?_
 have hd:d∈C1++C2:=by rw[hs];simp
 have he:e∈C1++C2:=by rw[hs];simp
 have hl:=h.link
 rw[hs] at hl
 have hde:=link_pair hl
 have hne:twin d≠e:=fun q=>h.twin_off hd (q ▸ he)
 have hc:chn (C1++C2) (d / 2)=true:=by rw[chn_dart h.nodup];simp[hd,h.twin_off hd]
 have h2:=hχ.two hp ht (twin_mem (h.dr d hd)) (h.dr e he) (by rw[tail_twin,hde]) hne (fun u hu huv=>by
  rw[tail_twin,hde] at huv
  rw[h.all hd he hde huv,Bool.xor_comm])
 rw[h2,hχ.twin d (h.dr d hd),hc]
 cases χ d <;> rfl
theorem Arcs.theta (hp:PartOk g b) (ht:TurnsOk g b turn) (h:Arcs g b on C1 C2 x y) {S:List Int} {cS χ ψ:Int→Bool} (hχ:Col g b turn (chn (C1++C2)) χ) (hcS:ChainAt g b turn on S cS x y)
  (hψ:Col g b turn (fun e=>chn C1 e ^^ cS e) ψ) (hoff:∀ d∈C1++C2,d / 2 ∉ S) :
  ∃ κ k α:Bool,(∀ d∈C1++C2,χ d=κ)∧(∀ d∈C1,ψ d=k)∧(∀ d∈C2,ψ d=α)∧(∃ q∈b.darts,q / 2∈S∧((χ q ^^ κ) ^^ (α ^^ k))=true) ∧
   (∀ d∈C2,g.tail d≠y→∀ u∈b.darts,g.tail u=g.tail d→ψ u=α)∧∀ d∈C1,g.tail d≠x→∀ u∈b.darts,g.tail u=g.tail d→(χ u ^^ ψ u)=(κ ^^ k):=by
 obtain⟨o,l,hC1,hox⟩:=h.c1
 obtain⟨m,t,hC2,htx⟩:=last_head h.l2 (Ne.symm h.ne)
 have ho:o∈C1:=by rw[hC1];simp
 have htm:t∈C2:=by rw[hC2];simp
 have hcS0:∀ d∈C1++C2,cS (d / 2)=false:=fun d hd=>by
  cases q:cS (d / 2) with
  | false=>rfl
  | true=>exact absurd (hcS.supp _ q) (hoff d hd)
 have xy1:∀ e∈C1,g.tail e≠y:=fun e he q=>by
  obtain⟨o2,l2,hC,hoy⟩:=h.symm.c1
  have ho2:o2∈C2:=by rw[hC];simp
  exact h.off1 ho2 (h.tail_one (m1 he) (m2 ho2) (q.trans hoy.symm) ▸ he)
 have xy2:∀ e∈C2,g.tail e≠x:=fun e he q=>h.off1 he (h.tail_one (m2 he) (m1 ho) (q.trans hox.symm) ▸ ho)
 -- inside the first way
 have in1:∀ d∈C1,∀ e∈C1,g.head d=g.tail e→g.tail e≠x→∀ u∈b.darts,g.tail u=g.tail e→(chn C1 (u / 2) ^^ cS (u / 2))=(decide (u=e) ^^ decide (u=twin d)):=fun d hd e he hde hex u hu huv=>by
  rw[h.in1 hd he hde huv,hcS.none (g.tail e) (h.on e (m1 he)) hex (xy1 e he) u hu huv,Bool.xor_false]
 have in2:∀ d∈C2,∀ e∈C2,g.head d=g.tail e→g.tail e≠y→∀ u∈b.darts,g.tail u=g.tail e→(chn C1 (u / 2) ^^ cS (u / 2))=false:=fun d hd e he hde hey u hu huv=>by
  rw[h.in2 hd he hde huv,hcS.none (g.tail e) (h.on e (m2 he)) (xy2 e he) hey u hu huv];rfl
 have hχc:=h.side hp ht hχ
 have hψ1:∀ d∈C1,∀ e∈C1,ψ d=ψ e:=by
  refine chain_const fun U d e V hs=>?_
  have hd:d∈C1:=by rw[hs];simp
  have he:e∈C1:=by rw[hs];simp
  have hl:=h.l1
  rw[hs] at hl
  have hde:=link_pair hl
  have hne:twin d≠e:=fun q=>h.twin_off (m1 hd) (q ▸ m1 he)
  have hex:g.tail e≠x:=fun q=>by
   have e1:e=o:=h.tail_one (m1 he) (m1 ho) (q.trans hox.symm)
   have hn:=h.n1
   rw[hs] at hn
   rw[hC1] at hs
   cases U with
   | nil=>injection hs with s1 s2;rw[←s1,e1] at hn;simp at hn
   | cons a U =>
    injection hs with s1 s2
    rw[←s1,e1] at hn
    simp at hn
  have hc:(chn C1 (d / 2) ^^ cS (d / 2))=true:=by
   rw[chn_dart h.n1,hcS0 d (m1 hd)]
   have:twin d ∉ C1:=fun q=>h.twin_off (m1 hd) (m1 q)
   simp[hd,this]
  have h2:=hψ.two hp ht (twin_mem (h.dr d (m1 hd))) (h.dr e (m1 he)) (by rw[tail_twin,hde]) hne (fun u hu huv=>by
   rw[tail_twin,hde] at huv
   rw[in1 d hd e he hde hex u hu huv,Bool.xor_comm])
  rw[h2,hψ.twin d (h.dr d (m1 hd)),hc]
  cases ψ d <;> rfl
 have hc2:∀ d∈C2,(chn C1 (d / 2) ^^ cS (d / 2))=false:=fun d hd=>by
  rw[chn_dart h.n1,hcS0 d (m2 hd)]
  have:twin d ∉ C1:=fun q=>h.twin_off (m2 hd) (m1 q)
  simp[h.off1 hd,this]
 have tw2:∀ d∈C2,ψ (twin d)=ψ d:=fun d hd=>by rw[hψ.twin d (h.dr d (m2 hd)),hc2 d hd,Bool.xor_false]
 have hey:∀ U d e V,C2=U++d :: e :: V→g.tail e≠y:=fun U d e V hs q=>by
  obtain⟨o2,l2,hC,hoy⟩:=h.symm.c1
  have ho2:o2∈C2:=by rw[hC];simp
  have he:e∈C2:=by rw[hs];simp
  have e1:e=o2:=h.tail_one (m2 he) (m2 ho2) (q.trans hoy.symm)
  have hn:=h.symm.n1
  rw[hs] at hn
  rw[hC] at hs
  cases U with
  | nil=>injection hs with s1 s2;rw[←s1,e1] at hn;simp at hn
  | cons a U =>
   injection hs with s1 s2
   rw[←s1,e1] at hn
   simp at hn
 have hψ2:∀ d∈C2,∀ e∈C2,ψ d=ψ e:=by
  refine chain_const fun U d e V hs=>?_
  have hd:d∈C2:=by rw[hs];simp
  have he:e∈C2:=by rw[hs];simp
  have hl:=h.l2
  rw[hs] at hl
  have hde:=link_pair hl
  rw[←tw2 d hd]
  exact hψ.same hp ht (twin_mem (h.dr d (m2 hd))) (h.dr e (m2 he)) (by rw[tail_twin,hde]) fun u hu huv=>in2 d hd e he hde (hey U d e V hs) u hu (by rw[huv,tail_twin,hde])
 refine⟨χ o,ψ o,ψ t,fun d hd=>hχc d hd o (m1 ho),fun d hd=>hψ1 d hd o ho,fun d hd=>hψ2 d hd t htm,?_,fun e he hey' u hu huv=>?_,fun e he hex u hu huv=>?_⟩
 ·obtain⟨q,q1,q2,q3,q4⟩:=hcS.one
  refine⟨q,q1,q3,?_⟩
  have htx':g.tail (twin t)=x:=by rw[tail_twin,htx]
  have hoS:∀ d∈C1++C2,d / 2≠q / 2:=fun d hd r=>hoff d hd (r ▸ q3)
  have h3:=hχ.three hψ hp ht (o:=o) (t:=twin t) (q:=q) (h.dr o (m1 ho)) (twin_mem (h.dr t (m2 htm))) q1 (htx'.trans hox.symm) (q2.trans hox.symm) (fun r=>h.twin_off (m2 htm) (r ▸ m1 ho)) (fun r=>hoS o (m1 ho) (by rw[r])) (fun r=>hoS t (m2 htm) (by rw[←r,twin_div]))
   (fun u hu huv=>h.all (m2 htm) (m1 ho) (htx.trans hox.symm) huv)
   (fun u hu huv=>by
    rw[hox] at huv
    rw[h.at_x ho hox huv,q4 u hu huv])
  rw[tw2 t htm] at h3
  exact h3
 ·obtain⟨d,hd,hde⟩:=link_pairs h.l2 he hey'
  rw[hψ2 t htm e he]
  exact hψ.same hp ht hu (h.dr e (m2 he)) huv fun w hw hwv=>in2 d hd e he hde hey' w hw (hwv.trans huv)
 obtain⟨d,hd,hde⟩:=link_pairs h.l1 he hex
 rw[←hχc e (m1 he) o (m1 ho),←hψ1 e he o ho]
 exact hχ.alike hψ hp ht hu (h.dr e (m1 he)) huv fun w hw hwv=>by
  have hwe:=hwv.trans huv
  rw[h.all (m1 hd) (m1 he) hde hwe,in1 d hd e he hde hex w hw hwe]
def Rolled (L M:List Int):Prop:=∃ U V,L=U++V∧M=V++U
def Crs (L S T:List Int):Prop:=∃ x∈S,∃ y∈S,∃ z∈T,∃ w∈T,∃ A B,Rolled L (x :: A++y :: B)∧z∈A∧w∈B
def Tri (S T:List Int):Prop:=∃ x y z,(x∈S∧x∈T)∧(y∈S∧y∈T)∧(z∈S∧z∈T)∧x≠y∧y≠z∧x≠z
def Conf (L S T:List Int):Prop:=Crs L S T∨Tri S T
theorem Rolled.refl (L:List Int):Rolled L L:=⟨[],L,rfl,by simp⟩
theorem Rolled.symm {L M:List Int}:Rolled L M→Rolled M L:=fun ⟨U,V,h,k⟩=>⟨V,U,k,h⟩
theorem Rolled.perm {L M:List Int}:Rolled L M→L.Perm M:=fun ⟨U,V,h,k⟩=>by rw[h,k];exact List.perm_append_comm
theorem Rolled.trans {L M N:List Int}:Rolled L M→Rolled M N→Rolled L N:=fun ⟨U,V,h,k⟩ ⟨X,Y,h2,k2⟩=>by
 rw[k] at h2
 rcases List.append_eq_append_iff.1 h2 with ⟨Z,e1,e2⟩ | ⟨Z,e1,e2⟩
 .-- X=V++Z,U=Z++Y
  exact⟨Z,Y++V,by rw[h,e2];simp,by rw[k2,e1];simp⟩
 -- V=X++Z,Y=Z++U
 exact⟨U++X,Z,by rw[h,e1];simp,by rw[k2,e2];simp⟩
theorem Conf.symm {L S T:List Int} (h:Conf L S T):Conf L T S:=by
 rcases h with ⟨x,hx,y,hy,z,hz,w,hw,A,B,hr,hA,hB⟩ | ⟨x,y,z,a,b,c,d⟩
 ·obtain⟨A1,A2,rfl⟩:=List.append_of_mem hA
  obtain⟨B1,B2,rfl⟩:=List.append_of_mem hB
  refine Or.inl ⟨z,hz,w,hw,y,hy,x,hx,A2++y :: B1,B2++x :: A1,hr.trans ⟨x :: A1,z :: A2++y :: (B1++w :: B2),by simp,by simp⟩,by simp,by simp⟩
 exact Or.inr ⟨x,y,z,a.symm,b.symm,c.symm,d⟩
theorem Conf.rolled {L M S T:List Int} (h:Conf L S T) (hr:Rolled L M):Conf M S T:=by
 rcases h with ⟨x,hx,y,hy,z,hz,w,hw,A,B,h,k⟩ | h
 ·exact Or.inl ⟨x,hx,y,hy,z,hz,w,hw,A,B,hr.symm.trans h,k⟩
 exact Or.inr h
structure Cycle (g:Gr) (b:Pt) (on:Int→Bool) (C:List Int):Prop where
 link:∃ x,Link g x C x
 tn:(C.map g.tail).Nodup
 en:(C.map (· / 2)).Nodup
 dr:∀ d∈C,d∈b.darts
 on:∀ d∈C,on (g.tail d)=true
variable {g : Gr} {b : Pt} {turn : List (List Int)} {on : Int → Bool} {C S T : List Int}
theorem Cycle.roll (h:Cycle g b on C) {D:List Int} (hr:Rolled C D):Cycle g b on D:=by
 have hp:=hr.perm
 obtain⟨U,V,rfl,rfl⟩:=hr
 obtain⟨x,hl⟩:=h.link
 obtain⟨m,h1,h2⟩:=Link.append.1 hl
 exact⟨⟨m,Link.append.2 ⟨x,h2,h1⟩⟩,(hp.map _).nodup_iff.1 h.tn,(hp.map _).nodup_iff.1 h.en,fun d hd=>h.dr d (hp.mem_iff.2 hd),fun d hd=>h.on d (hp.mem_iff.2 hd)⟩
theorem Cycle.arcs (h:Cycle g b on C) {C1 C2:List Int} {o t:Int} (e:C=o :: C1++t :: C2):Arcs g b on (o :: C1) (t :: C2) (g.tail o) (g.tail t):=by
 subst e
 obtain⟨x,hl⟩:=h.link
 obtain⟨m,h1,h2⟩:=Link.append.1 hl
 have e1:g.tail o=x:=h1.1
 have e2:g.tail t=m:=h2.1
 subst e1 e2
 refine⟨h1,h2,fun q=>?_,h.tn,h.en,h.dr,h.on⟩
 have:=h.tn
 rw[List.map_append,List.nodup_append] at this
 exact this.2.2 _ (by simp) _ (by simp) q
theorem Cycle.head_on (h:Cycle g b on C) {d:Int} (hd:d∈C):on (g.head d)=true:=by
 obtain⟨x,hl⟩:=h.link
 have:g.head d∈C.map g.tail:=(heads_perm hl).mem_iff.1 (List.mem_map.2 ⟨d,hd,rfl⟩)
 obtain⟨e,he,q⟩:=List.mem_map.1 this
 rw[←q];exact h.on e he
theorem rolled_chn {C D:List Int} (h:Rolled C D):chn C=chn D:=by
 obtain⟨U,V,rfl,rfl⟩:=h
 funext e
 rw[chn_append,chn_append,Bool.xor_comm]
theorem rolled_map {f:Int→Int} {C M:List Int} (h:Rolled (C.map f) M):∃ D,Rolled C D∧D.map f=M:=by
 obtain⟨U,V,h1,h2⟩:=h
 obtain⟨U',V',rfl,e1,e2⟩:=List.map_eq_append_iff.1 h1
 exact⟨V'++U',⟨U',V',rfl,rfl⟩,by rw[List.map_append,e1,e2,h2]⟩
theorem map_split {f:Int→Int} {D:List Int} {x y:Int} {A B:List Int} (h:D.map f=x :: A++y :: B):∃ o C1 t C2,D=o :: C1++t :: C2∧f o=x∧C1.map f=A∧f t=y∧C2.map f=B:=by
 obtain⟨D1,D2,rfl,e1,e2⟩:=List.map_eq_append_iff.1 h
 obtain⟨o,C1,rfl,e3,e4⟩:=List.map_eq_cons_iff.1 e1
 obtain⟨t,C2,rfl,e5,e6⟩:=List.map_eq_cons_iff.1 e2
 exact⟨o,C1,t,C2,rfl,e3,e4,e5,e6⟩
theorem Blob.cycle (hp:PartOk g b) (ht:TurnsOk g b turn) (hC:Cycle g b on C) (hT:Blob g b on T) (hoff:∀ d∈C,d / 2 ∉ T) {χ:Int→Bool} (hχ:Col g b turn (chn C) χ) :
  ∀ d∈b.darts,d / 2∈T→∀ d'∈b.darts,d' / 2∈T→χ d=χ d' :=
 hT.colour hp ht hχ (fun e he=>chn_off fun d hd q=>hoff d hd (q ▸ he)) fun v hv _ u _ huv=>by
  rw[chn_dart (nodup_of_map hC.tn)]
  have e1:u ∉ C:=fun q=>by rw[←huv,hC.on u q] at hv;cases hv
  have e2:twin u ∉ C:=fun q=>by
   have:=hC.head_on q
   rw[←tail_twin,twin_twin,huv,hv] at this;cases this
  simp[e1,e2]
theorem Blob.theta (hp:PartOk g b) (ht:TurnsOk g b turn) {C1 C2:List Int} (hC:Cycle g b on (C1++C2)) (hT:Blob g b on T) (hS:Blob g b on S) (hST:∀ e∈S,e ∉ T) (hoff:∀ d∈C1++C2,d / 2 ∉ T) {cS ψ:Int→Bool} (hcS:∀ e,cS e=true→e∈S)
  (hψ:Col g b turn (fun e=>chn C1 e ^^ cS e) ψ):∀ d∈b.darts,d / 2∈T→∀ d'∈b.darts,d' / 2∈T→ψ d=ψ d':=by
 have hcs:∀ e∈T,cS e=false:=fun e he=>by
  cases q:cS e with
  | false=>rfl
  | true=>exact absurd he (hST e (hcS e q))
 refine hT.colour hp ht hψ (fun e he=>?_) fun v hv ⟨e,he,hev⟩ u hu huv=>?_
 ·rw[chn_off fun d hd q=>hoff d (m1 hd) (q ▸ he),hcs e he];rfl
 have h1:chn C1 (u / 2)=false:=by
  have hn:=nodup_of_map hC.tn
  rw[chn_dart (List.nodup_append.1 hn).1]
  have e1:u ∉ C1:=fun q=>by rw[←huv,hC.on u (m1 q)] at hv;cases hv
  have e2:twin u ∉ C1:=fun q=>by
   have:=hC.head_on (m1 q)
   rw[←tail_twin,twin_twin,huv,hv] at this;cases this
  simp[e1,e2]
 have h2:cS (u / 2)=false:=by
  cases q:cS (u / 2) with
  | false=>rfl
  | true =>
   have hu2:=hcS _ q
   have:=hS.shut _ hu2 e (hT.sub e he) ⟨v,hv,huv ▸ (dart_end g u).1,hev⟩
   exact absurd he (hST e this)
 rw[h1,h2];rfl
theorem same_side (hR:Globe g b turn) (hl:∀ e∈b.e,(g.at e).1≠(g.at e).2) (hC:Cycle g b on C) {χ:Int→Bool} (hχ:Col g b turn (chn C) χ) (hS:Blob g b on S) (hT:Blob g b on T) (hST:∀ e∈S,e ∉ T)
  (hoS:∀ d∈C,d / 2 ∉ S) (hoT:∀ d∈C,d / 2 ∉ T) {s t:Int} (hs:s∈b.darts) (hsS:s / 2∈S) (htd:t∈b.darts) (htT:t / 2∈T) (hst:χ s=χ t) (hends:∀ v∈endsOf g on S,v∈C.map g.tail) :
  ¬ Conf (C.map g.tail) (endsOf g on S) (endsOf g on T):=by
 have hp:=Pt.ok_of_err hR.pe
 have ht:=hR.to_
 have cS:=hS.cycle hp ht hC hoS hχ
 have cT:=hT.cycle hp ht hC hoT hχ
 obtain⟨cc,hcc⟩:=hS.chains hp ht hl
 have dartT:∀ v∈endsOf g on T,∃ u∈b.darts,g.tail u=v∧u / 2∈T:=fun v hv=>by
  obtain⟨_,e,he,hev⟩:=mem_endsOf.1 hv
  obtain⟨u,h1,h2,rfl⟩:=end_dart' (hT.sub e he) hev
  exact⟨u,h1,h2,he⟩
 have colEx:∀ {C1 C2 x y},Arcs g b on C1 C2 x y→x∈endsOf g on S→y∈endsOf g on S→∃ ψ,Col g b turn (fun e=>chn C1 e ^^ (cc x e ^^ cc y e)) ψ:=fun {C1 C2 x y} hA hx hy =>
  hR.col fun v hv=>by
   rw[deg_xor,deg_link hp ht hv hA.l1 (fun d hd=>hA.dr d (m1 hd)),(hcc x hx y hy hA.ne).deg v hv]
   cases decide (x=v) <;> cases decide (y=v) <;> rfl
 rintro (⟨x,hx,y,hy,z,hz,w,hw,A,B,hr,hA,hB⟩ | htri)
 ·obtain⟨D,hD,hDm⟩:=rolled_map hr
  obtain⟨o,C1,t2,C2,rfl,rfl,rfl,rfl,rfl⟩:=map_split hDm
  have hCD:=hC.roll hD
  have hArc:=hCD.arcs rfl
  rw[rolled_chn hD] at hχ
  have hoff:∀ {M:List Int},(∀ d∈C,d / 2 ∉ M)→∀ d∈o :: C1++t2 :: C2,d / 2 ∉ M:=fun h d hd=>h d (hD.perm.mem_iff.2 hd)
  obtain⟨ψ,hψ⟩:=colEx hArc hx hy
  have hch:=hcc _ hx _ hy hArc.ne
  obtain⟨κ,k,α,t1,t2',t3,⟨q,q1,q2,q3⟩,t5,t6⟩:=hArc.theta hp ht hχ hch hψ (hoff hoS)
  have hψT:=Blob.theta hp ht hCD hT hS hST (hoff hoT) hch.supp hψ
  obtain⟨d1,hd1,e1⟩:=List.mem_map.1 hA
  obtain⟨d2,hd2,e2⟩:=List.mem_map.1 hB
  obtain⟨u1,f1,f2,f3⟩:=dartT z hz
  obtain⟨u2,f4,f5,f6⟩:=dartT w hw
  have hzx:g.tail d1≠g.tail o:=fun r=>by
   have:=hArc.n1
   rw[List.nodup_cons] at this
   exact this.1 (hArc.tail_one (m1 (List.mem_cons_of_mem _ hd1)) (m1 (by simp)) r ▸ hd1)
  have hwy:g.tail d2≠g.tail t2:=fun r=>by
   have:=hArc.symm.n1
   rw[List.nodup_cons] at this
   exact this.1 (hArc.tail_one (m2 (List.mem_cons_of_mem _ hd2)) (m2 (by simp)) r ▸ hd2)
  have a1:=t6 d1 (List.mem_cons_of_mem _ hd1) hzx u1 f1 (f2.trans e1.symm)
  have a2:=t5 d2 (List.mem_cons_of_mem _ hd2) hwy u2 f4 (f5.trans e2.symm)
  have a3:=hψT u1 f1 f3 u2 f4 f6
  have a4:=cT u1 f1 f3 t htd htT
  have a5:=cS q q1 q2 s hs hsS
  rw[a5,hst,←a4] at q3
  rw[a2] at a3
  rw[a3] at a1
  revert q3 a1
  cases χ u1 <;> cases κ <;> cases α <;> cases k <;> simp
 -- three in common,in their order
 have key:∀ {x y z:Int} {P Q R:List Int},Rolled (C.map g.tail) (x :: P++y :: Q++z :: R)→(x∈endsOf g on S∧x∈endsOf g on T)→(y∈endsOf g on S∧y∈endsOf g on T)→(z∈endsOf g on S∧z∈endsOf g on T)→False:=by
  intro x y z P Q R hr hx hy hz
  obtain⟨D,hD,hDm⟩:=rolled_map hr
  obtain⟨D1,D2,rfl,e1,e2⟩:=List.map_eq_append_iff.1 hDm
  obtain⟨o1,A1,o2,A2,rfl,rfl,rfl,rfl,rfl⟩:=map_split e1
  obtain⟨o3,A3,rfl,rfl,rfl⟩:=List.map_eq_cons_iff.1 e2
  clear e1 e2
  have hCD:=hC.roll hD
  have hCD1:Cycle g b on (o1 :: A1++o2 :: (A2++o3 :: A3)):=by simpa using hCD
  have hr2:Rolled (o1 :: A1++o2 :: (A2++o3 :: A3)) (o2 :: A2++o3 :: (A3++o1 :: A1)):=⟨o1 :: A1,o2 :: (A2++o3 :: A3),rfl,by simp⟩
  have hr3:Rolled (o1 :: A1++o2 :: (A2++o3 :: A3)) (o3 :: A3++o1 :: (A1++o2 :: A2)):=⟨o1 :: A1++o2 :: A2,o3 :: A3,by simp,by simp⟩
  have hD1:Rolled C (o1 :: A1++o2 :: (A2++o3 :: A3)):=by simpa using hD
  have hCD2:=hCD1.roll hr2
  have hCD3:=hCD1.roll hr3
  have r1:=hCD1.arcs rfl
  have r2:=hCD2.arcs rfl
  have r3:=hCD3.arcs rfl
  obtain⟨ψ1,h1⟩:=colEx r1 hx.1 hy.1
  obtain⟨ψ2,h2⟩:=colEx r2 hy.1 hz.1
  have h3:Col g b turn (fun e=>chn (o3 :: A3) e ^^ (cc (g.tail o3) e ^^ cc (g.tail o1) e)) (fun d=>χ d ^^ (ψ1 d ^^ ψ2 d)):=(hχ.xor (h1.xor h2)).congr fun e _=>by
   rw[rolled_chn hD1]
   have:chn (o1 :: A1++o2 :: (A2++o3 :: A3)) e=(chn (o1 :: A1) e ^^ (chn (o2 :: A2) e ^^ chn (o3 :: A3) e)):=by
    rw[chn_append,←chn_append (o2 :: A2)];rfl
   rw[this]
   generalize chn (o1 :: A1) e=a1
   generalize chn (o2 :: A2) e=a2
   generalize chn (o3 :: A3) e=a3
   generalize cc (g.tail o1) e=c1
   generalize cc (g.tail o2) e=c2
   generalize cc (g.tail o3) e=c3
   cases a1 <;> cases a2 <;> cases a3 <;> cases c1 <;> cases c2 <;> cases c3 <;> rfl
  have hoff:∀ {M D:List Int},Rolled C D→(∀ d∈C,d / 2 ∉ M)→∀ d∈D,d / 2 ∉ M:=fun k h d hd=>h d (k.perm.mem_iff.2 hd)
  have c1:=hcc _ hx.1 _ hy.1 r1.ne
  have c2:=hcc _ hy.1 _ hz.1 r2.ne
  have c3:=hcc _ hz.1 _ hx.1 r3.ne
  have k1:Col g b turn (chn (o1 :: A1++o2 :: (A2++o3 :: A3))) χ:=by rw[←rolled_chn hD1];exact hχ
  have k2:Col g b turn (chn (o2 :: A2++o3 :: (A3++o1 :: A1))) χ:=by rw[←rolled_chn (hD1.trans hr2)];exact hχ
  have k3:Col g b turn (chn (o3 :: A3++o1 :: (A1++o2 :: A2))) χ:=by rw[←rolled_chn (hD1.trans hr3)];exact hχ
  obtain⟨κ,k,α,t1,t2,t3,⟨q,q1,q2,q3⟩,t5,-⟩:=r1.theta hp ht k1 c1 h1 (hoff hD1 hoS)
  obtain⟨_,_,α2,-,-,u3,-,u5,-⟩:=r2.theta hp ht k2 c2 h2 (hoff (hD1.trans hr2) hoS)
  obtain⟨_,_,α3,-,-,v3,-,v5,-⟩:=r3.theta hp ht k3 c3 h3 (hoff (hD1.trans hr3) hoS)
  have T1:=Blob.theta hp ht hCD1 hT hS hST (hoff hD1 hoT) c1.supp h1
  have T2:=Blob.theta hp ht hCD2 hT hS hST (hoff (hD1.trans hr2) hoT) c2.supp h2
  have T3:=Blob.theta hp ht hCD3 hT hS hST (hoff (hD1.trans hr3) hoT) c3.supp h3
  obtain⟨ux,f1,f2,f3⟩:=dartT _ hx.2
  obtain⟨uy,f4,f5,f6⟩:=dartT _ hy.2
  obtain⟨uz,f7,f8,f9⟩:=dartT _ hz.2
  have b1:=t5 o3 (by simp) (Ne.symm r2.ne) uz f7 f8
  have b2:=u5 o1 (by simp) (Ne.symm r3.ne) ux f1 f2
  have b3:=v5 o2 (by simp) (Ne.symm r1.ne) uy f4 f5
  rw[T1 uz f7 f9 ux f1 f3] at b1
  rw[T3 uy f4 f6 ux f1 f3] at b3
  have g1:=t1 o1 (by simp)
  have g2:=t2 o1 (by simp)
  have g3:=u3 o1 (by simp)
  have g4:=v3 o1 (by simp)
  have a4:=cT ux f1 f3 t htd htT
  have a5:=cS q q1 q2 s hs hsS
  rw[a5,hst,←a4] at q3
  rw[b1,b2] at b3
  rw[g1,g2,g3] at g4
  revert q3 b3 g4
  cases χ ux <;> cases κ <;> cases α <;> cases k <;> cases α2 <;> cases α3 <;> simp
 obtain⟨x,y,z,hx,hy,hz,hxy,hyz,hxz⟩:=htri
 have hxm:=hends x hx.1
 have hym:=hends y hy.1
 have hzm:=hends z hz.1
 obtain⟨U,V,hUV⟩:=List.append_of_mem hxm
 have hr:Rolled (C.map g.tail) (x :: (V++U)):=⟨U,x :: V,hUV,rfl⟩
 have hm:∀ v∈C.map g.tail,v≠x→v∈V++U:=fun v hv q=>by
  rcases List.mem_cons.1 (hr.perm.mem_iff.1 hv) with r | r
  ·exact absurd r q
  exact r
 have hyV:=hm y hym (Ne.symm hxy)
 have hzV:=hm z hzm (Ne.symm hxz)
 generalize V++U=M at hr hyV hzV
 obtain⟨P,Q,rfl⟩:=List.append_of_mem hyV
 rcases List.mem_append.1 hzV with r | r
 ·obtain⟨P1,P2,rfl⟩:=List.append_of_mem r
  exact key (x:=x) (y:=z) (z:=y) (P:=P1) (Q:=P2) (R:=Q) (by simpa using hr) hx hz hy
 obtain⟨Q1,Q2,rfl⟩:=List.append_of_mem ((List.mem_cons.1 r).resolve_left (Ne.symm hyz))
 exact key (x:=x) (y:=y) (z:=z) (P:=P) (Q:=Q1) (R:=Q2) (by simpa using hr) hx hy hz
variable {g : Gr} {p : Pt} {turn : List (List Int)} {F : List (List Int)} {f k : List Int} {x y : Int}
theorem Ring.roll {q:Int→Int} {L M:List Int} (h:Ring q L) (hr:Rolled L M):Ring q M:=by
 obtain⟨U,V,rfl,rfl⟩:=hr
 cases U with
 | nil=>simpa using h
 | cons a U =>
  cases V with
  | nil=>simpa using h
  | cons c V=>exact Ring.turn h
theorem trail_next {q:Int→Int} {z:Int}:∀ {l:List Int} {x:Int},Trail q x l z→∀ e∈x :: l,q e∈l∨q e=z
 | [],x,h,e,he=>by rw[List.mem_singleton.1 he];exact Or.inr h
 | a :: l,x,h,e,he=>by
  rcases List.mem_cons.1 he with r | r
  ·rw[r,h.1];exact Or.inl (by simp)
  rcases trail_next h.2 e r with s | s
  ·exact Or.inl (List.mem_cons_of_mem _ s)
  exact Or.inr s
theorem ring_arc {q:Int→Int} {o t:Int} {A B:List Int} (h:Ring q (o :: A++t :: B)) {e:Int} (he:e∈o :: A):q e∈o :: A∨q e=t:=by
 have h':Trail q o (A++t :: B) o:=h
 rw[Trail.append] at h'
 rcases trail_next h'.1 e he with r | r
 ·exact Or.inl (List.mem_cons_of_mem _ r)
 exact Or.inr r
theorem trail_link (hp:PartOk g p) (ht:TurnsOk g p turn) {z:Int}:∀ {l:List Int} {x:Int},Trail (nextDart g turn) x l z→(∀ d∈x :: l,d∈p.darts)→Link g (g.tail x) (x :: l) (g.tail z)
 | [],x,h,hd=>by
  have hz:nextDart g turn x=z:=h
  refine⟨rfl,?_⟩
  show g.head x=g.tail z
  rw[←hz,(next_tail ht (fun d hd=>hp.vr _ (hp.tail_mem hd).1) (hd x (by simp))).2]
 | a :: l,x,h,hd=>by
  have ih:=trail_link hp ht h.2 (fun d hm=>hd d (List.mem_cons_of_mem _ hm))
  have e:=(next_tail ht (fun d hd=>hp.vr _ (hp.tail_mem hd).1) (hd x (by simp))).2
  rw[h.1] at e
  exact⟨rfl,by rw[←e];exact ih⟩
structure FaceAt (g:Gr) (p:Pt) (turn:List (List Int)) (o:Int) (A:List Int) (t:Int) (B:List Int):Prop where
 ring:Ring (nextDart g turn) (o :: A++t :: B)
 tn:((o :: A++t :: B).map g.tail).Nodup
 dr:∀ d∈o :: A++t :: B,d∈p.darts
theorem Faces.faceAt (h:Faces g p turn F) (hf:f∈F) {o t:Int} {A B:List Int} (hr:Rolled f (o :: A++t :: B)):FaceAt g p turn o A t B :=
 ⟨(h.rings.ring f hf).roll hr,((hr.perm.map _).nodup_iff).1 (h.simple f hf),fun _d hd=>h.all.mem_iff.1 (List.mem_flatten.2 ⟨f,hf,hr.perm.mem_iff.2 hd⟩)⟩
theorem FaceAt.symm {o t:Int} {A B:List Int} (h:FaceAt g p turn o A t B):FaceAt g p turn t B o A :=
 ⟨Ring.turn h.ring,((List.perm_append_comm.map _).nodup_iff).1 h.tn,fun d hd=>h.dr d (List.perm_append_comm.mem_iff.1 hd)⟩
theorem FaceAt.link (hp:PartOk g p) (ht:TurnsOk g p turn) {o t:Int} {A B:List Int} (h:FaceAt g p turn o A t B):Link g (g.tail o) (o :: A) (g.tail t):=by
 have h':Trail (nextDart g turn) o (A++t :: B) o:=h.ring
 rw[Trail.append] at h'
 exact trail_link hp ht h'.1 fun d hd=>h.dr d (List.mem_append.2 (Or.inl hd))
theorem FaceAt.ne {o t:Int} {A B:List Int} (h:FaceAt g p turn o A t B) {d e:Int} (hd:d∈o :: A) (he:e∈t :: B):g.tail d≠g.tail e:=by
 have:=h.tn
 rw[List.map_append,List.nodup_append] at this
 exact this.2.2 _ (List.mem_map.2 ⟨d,hd,rfl⟩) _ (List.mem_map.2 ⟨e,he,rfl⟩)
theorem FaceAt.step {o t:Int} {A B:List Int} (h:FaceAt g p turn o A t B) {e:Int} (he:e∈o :: A++t :: B) (h1:g.tail (nextDart g turn e)≠g.tail o) (h2:g.tail (nextDart g turn e)≠g.tail t) :
  e∈o :: A↔nextDart g turn e∈o :: A:=by
 constructor
 ·intro q
  rcases ring_arc h.ring q with r | r
  ·exact r
  rw[r] at h2;exact absurd rfl h2
 intro q
 rcases List.mem_append.1 he with r | r
 ·exact r
 rcases ring_arc h.symm.ring r with s | s
 ·exact absurd rfl (h.ne q s)
 rw[s] at h1;exact absurd rfl h1
theorem nodup_of_tn {o t:Int} {A B:List Int} (h:FaceAt g p turn o A t B):(o :: A++t :: B).Nodup:=nodup_of_map h.tn
def mk2 (M K:List Int) (d:Int):Bool:=decide (d∈M) ^^ decide (d∈K)
structure Curve (g:Gr) (p:Pt) (turn:List (List Int)) (F:List (List Int)) (M K:List Int) (x y:Int) (φ:Int→Bool):Prop where
 sym:∀ d∈p.darts,φ (twin d)=φ d
 next:∀ d∈p.darts,(φ (nextDart g turn d) ^^ mk2 M K (nextDart g turn d))=(φ d ^^ mk2 M K d)
theorem curve (h:Faces g p turn F) (hf:f∈F) (hk:k∈F) (_hne:f≠k) {o t u v:Int} {A B C D:List Int} (rf:Rolled f (o :: A++t :: B)) (rk:Rolled k (u :: C++v :: D)) (hx:g.tail u=g.tail o) (hy:g.tail v=g.tail t) :
  ∃ φ,Curve g p turn F (o :: A) (u :: C) (g.tail o) (g.tail t) φ:=by
 have hp:=Pt.ok_of_err h.pe
 have a1:=h.faceAt hf rf
 have a2:=h.faceAt hk rk
 have l1:=a1.link hp h.to_
 have l2:=a2.link hp h.to_
 rw[hx,hy] at l2
 have n1:=(List.nodup_append.1 (nodup_of_tn a1)).1
 have n2:=(List.nodup_append.1 (nodup_of_tn a2)).1
 obtain⟨χ,hχ⟩:=h.globe.col (c:=fun e=>chn (o :: A) e ^^ chn (u :: C) e) fun w hw=>by
  rw[deg_xor,deg_link hp h.to_ hw l1 (fun d hd=>a1.dr d (List.mem_append.2 (Or.inl hd))),deg_link hp h.to_ hw l2 (fun d hd=>a2.dr d (List.mem_append.2 (Or.inl hd)))]
  simp
 refine⟨fun d=>χ d ^^ mk2 (o :: A) (u :: C) d,fun d hd=>?_,fun d hd=>?_⟩
 ·show (χ (twin d) ^^ _)=(χ d ^^ _)
  rw[hχ.twin d hd,chn_dart n1,chn_dart n2]
  unfold mk2
  cases χ d <;> cases decide (d∈o :: A) <;> cases decide (twin d∈o :: A) <;> cases decide (d∈u :: C) <;> cases decide (twin d∈u :: C) <;> rfl
 show ((χ _ ^^ mk2 _ _ _) ^^ mk2 _ _ _)=((χ d ^^ mk2 _ _ _) ^^ mk2 _ _ _)
 rw[hχ.next d hd]
 cases χ d <;> cases mk2 (o :: A) (u :: C) (nextDart g turn d) <;> cases mk2 (o :: A) (u :: C) d <;> rfl
variable {M K : List Int} {φ : Int → Bool}
theorem Curve.face (h:Faces g p turn F) (hc:Curve g p turn F M K x y φ) {j:List Int} (hj:j∈F) {d e:Int} (hd:d∈j) (he:e∈j):(φ d ^^ mk2 M K d)=(φ e ^^ mk2 M K e) :=
 ring_const (f:=fun d=>φ d ^^ mk2 M K d) (h.rings.ring j hj) (fun w hw=>hc.next w (h.all.mem_iff.1 (List.mem_flatten.2 ⟨j,hj,hw⟩))) d hd e he
theorem turn_const (h:Faces g p turn F) {ψ m:Int→Bool} (h1:∀ d∈p.darts,ψ (twin d)=ψ d) (h2:∀ d∈p.darts,(ψ (nextDart g turn d) ^^ m (nextDart g turn d))=(ψ d ^^ m d)) {v:Int}
  (hm:∀ d∈p.darts,g.tail (nextDart g turn d)=v→m (nextDart g turn d)=m d) {d e:Int} (hd:d∈p.darts) (he:e∈p.darts) (hdv:g.tail d=v) (hev:g.tail e=v):ψ d=ψ e:=by
 have hp:=Pt.ok_of_err h.pe
 obtain⟨l,hl,hlp⟩:=at_ring hp h.to_ hd
 have hv:=(hp.tail_mem hd).1
 have hin:∀ w∈d :: l,w∈p.darts∧g.tail w=g.tail d:=fun w hw=>(at_mem hp h.to_ hv).1 (hlp.mem_iff.1 hw)
 have:=trail_const (f:=ψ) hl (fun w hw=>by
  obtain⟨w1,w2⟩:=hin w hw
  have hn:=next_tail h.to_ (fun d hd=>hp.vr _ (hp.tail_mem hd).1) (twin_mem w1)
  have e1:nextDart g turn (twin w)=before g turn w:=by unfold nextDart;rw[twin_twin]
  have e2:g.head (twin w)=g.tail w:=by rw[←tail_twin,twin_twin]
  have k1:=h2 _ (twin_mem w1)
  rw[hm _ (twin_mem w1) (by rw[hn.2,e2,w2,hdv]),e1,h1 w w1] at k1
  revert k1
  cases ψ (before g turn w) <;> cases ψ w <;> cases m (twin w) <;> simp) e (hlp.mem_iff.2 ((at_mem hp h.to_ hv).2 ⟨he,hev.trans hdv.symm⟩))
 exact this.symm
theorem mark_step (h:Faces g p turn F) (hf:f∈F) {o t:Int} {A B:List Int} (rf:Rolled f (o :: A++t :: B)) {d:Int} (hd:d∈p.darts) (h1:g.tail (nextDart g turn d)≠g.tail o) (h2:g.tail (nextDart g turn d)≠g.tail t) :
  decide (nextDart g turn d∈o :: A)=decide (d∈o :: A):=by
 have a1:=h.faceAt hf rf
 obtain⟨j,hj,hdj⟩:=List.mem_flatten.1 (h.all.mem_iff.2 hd)
 have hnj:nextDart g turn d∈j:=((h.rings.ring j hj).map_perm).mem_iff.1 (List.mem_map.2 ⟨d,hdj,rfl⟩)
 by_cases q:j=f
 ·subst q
  exact decide_eq_decide.2 (a1.step (rf.perm.mem_iff.1 hdj) h1 h2).symm
 have off:∀ w∈j,w ∉ o :: A:=fun w hw r=>q (list_one h.rings.nodup hj hf hw (rf.perm.mem_iff.2 (List.mem_append.2 (Or.inl r))))
 simp only[off _ hdj,off _ hnj]
theorem Curve.vertex (h:Faces g p turn F) (hf:f∈F) (hk:k∈F) {o t u v:Int} {A B C D:List Int} (rf:Rolled f (o :: A++t :: B)) (rk:Rolled k (u :: C++v :: D)) (hx:g.tail u=g.tail o) (hy:g.tail v=g.tail t)
  (hc:Curve g p turn F (o :: A) (u :: C) (g.tail o) (g.tail t) φ) {d e:Int} (hd:d∈p.darts) (he:e∈p.darts) (hde:g.tail d=g.tail e) (h1:g.tail d≠g.tail o) (h2:g.tail d≠g.tail t):φ d=φ e :=
 turn_const h hc.sym hc.next (v:=g.tail d) (fun w hw hwv=>by
  unfold mk2
  rw[mark_step h hf rf hw (by rw[hwv];exact h1) (by rw[hwv];exact h2),mark_step h hk rk hw (by rw[hwv,hx];exact h1) (by rw[hwv,hy];exact h2)]) hd he rfl hde.symm
theorem dart_of {L:List Int} {v:Int} (h:v∈L.map g.tail):∃ d∈L,g.tail d=v:=by
 obtain⟨d,h1,h2⟩:=List.mem_map.1 h
 exact⟨d,h1,h2⟩
theorem face_two {k:List Int} (hx:x∈k.map g.tail) (hy:y∈k.map g.tail) (hne:x≠y):∃ u C v D,Rolled k (u :: C++v :: D)∧g.tail u=x∧g.tail v=y:=by
 obtain⟨u,hu,e1⟩:=dart_of hx
 obtain⟨v,hv,e2⟩:=dart_of hy
 obtain⟨U,V,rfl⟩:=List.append_of_mem hu
 have hr:Rolled (U++u :: V) (u :: (V++U)):=⟨U,u :: V,rfl,rfl⟩
 have hm:v∈V++U:=by
  rcases List.mem_cons.1 (hr.perm.mem_iff.1 hv) with q | q
  ·rw[q,e1] at e2;exact absurd e2 hne
  exact q
 obtain⟨C,D,e⟩:=List.append_of_mem hm
 exact⟨u,C,v,D,by rw[e] at hr;exact hr,e1,e2⟩
theorem third_face (h:Faces g p turn F) (hf:f∈F) (hk:k∈F) {j:List Int} (hj:j∈F) (hfk:f≠k) (hfj:f≠j) (hkj:k≠j) {z w:Int} {A B:List Int} (hr:Rolled (f.map g.tail) (x :: A++y :: B)) (hxk:x∈k.map g.tail) (hyk:y∈k.map g.tail)
  (hzj:z∈j.map g.tail) (hwj:w∈j.map g.tail) (hz:z∈A) (hw:w∈B):False:=by
 obtain⟨E,hE,hEm⟩:=rolled_map hr
 obtain⟨o,C1,t,C2,rfl,rfl,rfl,rfl,rfl⟩:=map_split hEm
 have fa:=h.faceAt hf hE
 have hne:g.tail o≠g.tail t:=fa.ne (by simp) (by simp)
 obtain⟨u,C,v,D,rk,hx,hy⟩:=face_two hxk hyk hne
 obtain⟨φ,hc⟩:=curve h hf hk hfk hE rk hx hy
 obtain⟨d1,b1,rfl⟩:=List.mem_map.1 hz
 obtain⟨d2,b2,rfl⟩:=List.mem_map.1 hw
 obtain⟨e1,b3,b4⟩:=dart_of hzj
 obtain⟨e2,b5,b6⟩:=dart_of hwj
 have hin:∀ {l d},l∈F→d∈l→d∈p.darts:=fun hl hd=>h.all.mem_iff.1 (List.mem_flatten.2 ⟨_,hl,hd⟩)
 have m1:d1∈o :: C1++t :: C2:=by simp[b1]
 have m2:d2∈o :: C1++t :: C2:=by simp[b2]
 have hn:=fa.tn
 have ne1:g.tail d1≠g.tail o:=fun q=>by
  simp only[List.cons_append,List.map_cons,List.nodup_cons] at hn
  exact hn.1 (by rw[←q];simp;exact Or.inl ⟨d1,b1,rfl⟩)
 have ne2:g.tail d2≠g.tail t:=fun q=>by
  have hn:=fa.symm.tn
  simp only[List.cons_append,List.map_cons,List.nodup_cons] at hn
  exact hn.1 (by rw[←q];simp;exact Or.inl ⟨d2,b2,rfl⟩)
 have v1:=hc.vertex h hf hk hE rk hx hy (fa.dr _ m1) (hin hj b3) b4.symm ne1 (fa.ne (List.mem_cons_of_mem _ b1) (by simp))
 have v2:=hc.vertex h hf hk hE rk hx hy (fa.dr _ m2) (hin hj b5) b6.symm (fun q=>fa.ne (d:=o) (e:=d2) (by simp) (List.mem_cons_of_mem _ b2) q.symm) ne2
 have c1:=hc.face h hj b3 b5
 have c2:=hc.face h hf (hE.perm.mem_iff.2 m1) (hE.perm.mem_iff.2 m2)
 have offj:∀ d∈j,mk2 (o :: C1) (u :: C) d=false:=fun d hd=>by
  have q1:d ∉ o :: C1:=fun r=>hfj (list_one h.rings.nodup hf hj (hE.perm.mem_iff.2 (List.mem_append.2 (Or.inl r))) hd)
  have q2:d ∉ u :: C:=fun r=>hkj (list_one h.rings.nodup hk hj (rk.perm.mem_iff.2 (List.mem_append.2 (Or.inl r))) hd)
  unfold mk2;simp only[q1,q2];rfl
 have offk:∀ d∈o :: C1++t :: C2,d ∉ u :: C:=fun d hd r=>hfk (list_one h.rings.nodup hf hk (hE.perm.mem_iff.2 hd) (rk.perm.mem_iff.2 (List.mem_append.2 (Or.inl r))))
 have i1:d1∈o :: C1:=List.mem_cons_of_mem _ b1
 have i2:d2 ∉ o :: C1:=fun r=>fa.ne r (List.mem_cons_of_mem _ b2) rfl
 have k1:mk2 (o :: C1) (u :: C) d1=true:=by unfold mk2;simp only[i1,offk d1 m1];rfl
 have k2:mk2 (o :: C1) (u :: C) d2=false:=by unfold mk2;simp only[i2,offk d2 m2];rfl
 rw[offj e1 b3,offj e2 b5,←v1,←v2] at c1
 rw[k1,k2] at c2
 revert c1 c2
 cases φ d1 <;> cases φ d2 <;> simp
theorem both_cross (h:Faces g p turn F) (hf:f∈F) (hk:k∈F) (hfk:f≠k) {S T:List Int} (hS:∀ v∈S,v∈k.map g.tail) (hT:∀ v∈T,v∈k.map g.tail) (hc:Conf (f.map g.tail) S T):Conf (k.map g.tail) S T:=by
 rcases hc with ⟨x,hxS,y,hyS,z,hzT,w,hwT,A,B,hr,hz,hw⟩ | htri
 ·obtain⟨E,hE,hEm⟩:=rolled_map hr
  obtain⟨o,C1,t,C2,rfl,rfl,rfl,rfl,rfl⟩:=map_split hEm
  have fa:=h.faceAt hf hE
  have hne:g.tail o≠g.tail t:=fa.ne (by simp) (by simp)
  obtain⟨u,C,v,D,rk,hx,hy⟩:=face_two (hS _ hxS) (hS _ hyS) hne
  have ka:=h.faceAt hk rk
  obtain⟨φ,hc⟩:=curve h hf hk hfk hE rk hx hy
  obtain⟨d1,b1,rfl⟩:=List.mem_map.1 hz
  obtain⟨d2,b2,rfl⟩:=List.mem_map.1 hw
  obtain⟨e1,b3,b4⟩:=dart_of (hT _ hzT)
  obtain⟨e2,b5,b6⟩:=dart_of (hT _ hwT)
  have hin:∀ {l d},l∈F→d∈l→d∈p.darts:=fun hl hd=>h.all.mem_iff.1 (List.mem_flatten.2 ⟨_,hl,hd⟩)
  have m1:d1∈o :: C1++t :: C2:=by simp[b1]
  have m2:d2∈o :: C1++t :: C2:=by simp[b2]
  have hn:=fa.tn
  have ne1:g.tail d1≠g.tail o:=fun q=>by
   simp only[List.cons_append,List.map_cons,List.nodup_cons] at hn
   exact hn.1 (by rw[←q];simp;exact Or.inl ⟨d1,b1,rfl⟩)
  have ne2:g.tail d2≠g.tail t:=fun q=>by
   have hn:=fa.symm.tn
   simp only[List.cons_append,List.map_cons,List.nodup_cons] at hn
   exact hn.1 (by rw[←q];simp;exact Or.inl ⟨d2,b2,rfl⟩)
  have ne3:g.tail d1≠g.tail t:=fa.ne (List.mem_cons_of_mem _ b1) (by simp)
  have ne4:g.tail d2≠g.tail o:=fun q=>fa.ne (d:=o) (e:=d2) (by simp) (List.mem_cons_of_mem _ b2) q.symm
  have v1:=hc.vertex h hf hk hE rk hx hy (fa.dr _ m1) (hin hk b3) b4.symm ne1 ne3
  have v2:=hc.vertex h hf hk hE rk hx hy (fa.dr _ m2) (hin hk b5) b6.symm ne4 ne2
  have c1:=hc.face h hk b3 b5
  have c2:=hc.face h hf (hE.perm.mem_iff.2 m1) (hE.perm.mem_iff.2 m2)
  have offf:∀ d∈k,d ∉ o :: C1:=fun d hd r=>hfk (list_one h.rings.nodup hf hk (hE.perm.mem_iff.2 (List.mem_append.2 (Or.inl r))) hd)
  have offk:∀ d∈o :: C1++t :: C2,d ∉ u :: C:=fun d hd r=>hfk (list_one h.rings.nodup hf hk (hE.perm.mem_iff.2 hd) (rk.perm.mem_iff.2 (List.mem_append.2 (Or.inl r))))
  have i1:d1∈o :: C1:=List.mem_cons_of_mem _ b1
  have i2:d2 ∉ o :: C1:=fun r=>fa.ne r (List.mem_cons_of_mem _ b2) rfl
  have k1:mk2 (o :: C1) (u :: C) d1=true:=by unfold mk2;simp only[i1,offk d1 m1];rfl
  have k2:mk2 (o :: C1) (u :: C) d2=false:=by unfold mk2;simp only[i2,offk d2 m2];rfl
  have k3:mk2 (o :: C1) (u :: C) e1=decide (e1∈u :: C):=by unfold mk2;simp only[offf e1 b3,decide_false,Bool.false_xor]
  have k4:mk2 (o :: C1) (u :: C) e2=decide (e2∈u :: C):=by unfold mk2;simp only[offf e2 b5,decide_false,Bool.false_xor]
  rw[k3,k4,←v1,←v2] at c1
  rw[k1,k2] at c2
  have hx2:decide (e1∈u :: C)=!decide (e2∈u :: C):=by
   revert c1 c2
   cases φ d1 <;> cases φ d2 <;> cases decide (e1∈u :: C) <;> cases decide (e2∈u :: C) <;> simp
  have hmem:∀ {e:Int},e∈k→e∈u :: C∨e∈v :: D:=fun he=>List.mem_append.1 (rk.perm.mem_iff.1 he)
  have hrk:Rolled (k.map g.tail) (g.tail o :: C.map g.tail++g.tail t :: D.map g.tail):=by
   obtain⟨U,V,r1,r2⟩:=rk
   refine⟨U.map g.tail,V.map g.tail,by rw[r1,List.map_append],?_⟩
   rw[←List.map_append,←r2]
   simp[hx,hy]
  have inC:∀ {e:Int},e∈u :: C→g.tail e≠g.tail o→g.tail e∈C.map g.tail:=fun he q=>by
   rcases List.mem_cons.1 he with r | r
   ·rw[r,hx] at q;exact absurd rfl q
   exact List.mem_map.2 ⟨_,r,rfl⟩
  have inD:∀ {e:Int},e∈v :: D→g.tail e≠g.tail t→g.tail e∈D.map g.tail:=fun he q=>by
   rcases List.mem_cons.1 he with r | r
   ·rw[r,hy] at q;exact absurd rfl q
   exact List.mem_map.2 ⟨_,r,rfl⟩
  by_cases q1:e1∈u :: C
  ·have q2:e2 ∉ u :: C:=fun q=>by simp[q1,q] at hx2
   refine Or.inl ⟨_,hxS,_,hyS,_,hzT,_,hwT,_,_,hrk,?_,?_⟩
   ·rw[←b4];exact inC q1 (by rw[b4];exact ne1)
   rw[←b6];exact inD ((hmem b5).resolve_left q2) (by rw[b6];exact ne2)
  have q2:e2∈u :: C:=Classical.byContradiction fun q=>by
   have z1:decide (e1∈u :: C)=false:=decide_eq_false q1
   have z2:decide (e2∈u :: C)=false:=decide_eq_false q
   rw[z1,z2] at hx2;cases hx2
  refine Or.inl ⟨_,hxS,_,hyS,_,hwT,_,hzT,_,_,hrk,?_,?_⟩
  ·rw[←b6];exact inC q2 (by rw[b6];exact ne4)
  rw[←b4];exact inD ((hmem b3).resolve_left q1) (by rw[b4];exact ne3)
 exact Or.inr htri
variable {g : Gr} {p : Pt} {turn : List (List Int)} {F : List (List Int)} {f k j : List Int}
theorem tri_key (h:Faces g p turn F) (hf:f∈F) (hk:k∈F) (hj:j∈F) (hfk:f≠k) (hfj:f≠j) (hkj:k≠j) {ox oy oz u1 v1 u2 v2 u3 v3:Int} {P Q R C1 D1 C2 D2 C3 D3:List Int} (hr:Rolled f (ox :: P++oy :: Q++oz :: R))
  (r1:Rolled k (u1 :: C1++v1 :: D1)) (r2:Rolled k (u2 :: C2++v2 :: D2)) (r3:Rolled k (u3 :: C3++v3 :: D3)) (a1:g.tail u1=g.tail ox) (b1:g.tail v1=g.tail oy) (a2:g.tail u2=g.tail oy) (b2:g.tail v2=g.tail oz) (a3:g.tail u3=g.tail oz) (b3:g.tail v3=g.tail ox)
  (s:Bool) (hs:∀ d∈k,(decide (d∈u1 :: C1) ^^ (decide (d∈u2 :: C2) ^^ decide (d∈u3 :: C3)))=s) (jx:g.tail ox∈j.map g.tail) (jy:g.tail oy∈j.map g.tail) (jz:g.tail oz∈j.map g.tail):False:=by
 have f1:Rolled f (ox :: P++oy :: (Q++oz :: R)):=by simpa using hr
 have f2:Rolled f (oy :: Q++oz :: (R++ox :: P)):=f1.trans ⟨ox :: P,oy :: (Q++oz :: R),rfl,by simp⟩
 have f3:Rolled f (oz :: R++ox :: (P++oy :: Q)):=f1.trans ⟨ox :: P++oy :: Q,oz :: R,by simp,by simp⟩
 obtain⟨φ1,c1⟩:=curve h hf hk hfk f1 r1 a1 b1
 obtain⟨φ2,c2⟩:=curve h hf hk hfk f2 r2 a2 b2
 obtain⟨φ3,c3⟩:=curve h hf hk hfk f3 r3 a3 b3
 obtain⟨ex,ex1,ex2⟩:=dart_of jx
 obtain⟨ey,ey1,ey2⟩:=dart_of jy
 obtain⟨ez,ez1,ez2⟩:=dart_of jz
 have fa1:=h.faceAt hf f1
 have fa2:=h.faceAt hf f2
 have fa3:=h.faceAt hf f3
 have xy:g.tail ox≠g.tail oy:=fa1.ne (by simp) (by simp)
 have yz:g.tail oy≠g.tail oz:=fa2.ne (by simp) (by simp)
 have zx:g.tail oz≠g.tail ox:=fa3.ne (by simp) (by simp)
 have hin:∀ {l d},l∈F→d∈l→d∈p.darts:=fun hl hd=>h.all.mem_iff.1 (List.mem_flatten.2 ⟨_,hl,hd⟩)
 have mx:ox∈f:=f1.perm.mem_iff.2 (by simp)
 have my:oy∈f:=f1.perm.mem_iff.2 (by simp)
 have mz:oz∈f:=f1.perm.mem_iff.2 (by simp)
 have v1':=c1.vertex h hf hk f1 r1 a1 b1 (hin hf mz) (hin hj ez1) ez2.symm zx (Ne.symm yz)
 have v2':=c2.vertex h hf hk f2 r2 a2 b2 (hin hf mx) (hin hj ex1) ex2.symm xy (Ne.symm zx)
 have v3':=c3.vertex h hf hk f3 r3 a3 b3 (hin hf my) (hin hj ey1) ey2.symm yz (Ne.symm xy)
 have inf:∀ {M:List Int} {N:List Int} {d},Rolled f (M++N)→d∈M→d∈f:=fun hr hd=>hr.perm.mem_iff.2 (List.mem_append.2 (Or.inl hd))
 have offk:∀ {d} {C D:List Int},d∈f→Rolled k (C++D)→d ∉ C:=fun hd hr q=>hfk (list_one h.rings.nodup hf hk hd (hr.perm.mem_iff.2 (List.mem_append.2 (Or.inl q))))
 have offj:∀ {d} {M N C D:List Int},d∈j→Rolled f (M++N)→Rolled k (C++D)→mk2 M C d=false:=fun hd hr hr2=>by
  have q1:=fun q=>hfj (list_one h.rings.nodup hf hj (hr.perm.mem_iff.2 (List.mem_append.2 (Or.inl q))) hd)
  have q2:=fun q=>hkj (list_one h.rings.nodup hk hj (hr2.perm.mem_iff.2 (List.mem_append.2 (Or.inl q))) hd)
  unfold mk2
  rw[decide_eq_false q1,decide_eq_false q2];rfl
 have w1:=c1.face h hf mx mz
 have w3:=c3.face h hf mx my
 have k1:mk2 (ox :: P) (u1 :: C1) ox=true:=by unfold mk2;rw[decide_eq_false (offk mx r1)];simp
 have k2:mk2 (ox :: P) (u1 :: C1) oz=false:=by
  unfold mk2
  rw[decide_eq_false (offk mz r1),decide_eq_false fun q=>fa1.ne q (e:=oz) (by simp) rfl];rfl
 have k3:mk2 (oz :: R) (u3 :: C3) ox=false:=by
  unfold mk2
  rw[decide_eq_false (offk mx r3),decide_eq_false fun q=>fa3.ne q (e:=ox) (by simp) rfl];rfl
 have k4:mk2 (oz :: R) (u3 :: C3) oy=false:=by
  unfold mk2
  rw[decide_eq_false (offk my r3),decide_eq_false fun q=>fa3.ne q (e:=oy) (by simp) rfl];rfl
 rw[k1,k2] at w1
 rw[k3,k4] at w3
 have j1:=c1.face h hj ez1 ex1
 have j3:=c3.face h hj ey1 ex1
 rw[offj ez1 f1 r1,offj ex1 f1 r1] at j1
 rw[offj ey1 f3 r3,offj ex1 f3 r3] at j3
 -- the three together
 have hm:∀ d,(mk2 (ox :: P) (u1 :: C1) d ^^ (mk2 (oy :: Q) (u2 :: C2) d ^^ mk2 (oz :: R) (u3 :: C3) d))=(decide (d∈f) ^^ (s&&decide (d∈k))):=fun d=>by
  have e1:(decide (d∈ox :: P) ^^ (decide (d∈oy :: Q) ^^ decide (d∈oz :: R)))=decide (d∈f):=by
   by_cases hd:d∈f
   ·have hd':=hr.perm.mem_iff.1 hd
    have n1:d∈ox :: P→d ∉ oy :: Q∧d ∉ oz :: R:=fun q=>⟨fun r=>fa1.ne q (e:=d) (by simp at r ⊢;rcases r with r | r <;> simp[r]) rfl,fun r=>fa1.ne q (e:=d) (by simp at r ⊢;rcases r with r | r <;> simp[r]) rfl⟩
    have n2:d∈oy :: Q→d ∉ oz :: R:=fun q r=>fa2.ne q (e:=d) (by simp at r ⊢;rcases r with r | r <;> simp[r]) rfl
    rw[decide_eq_true hd]
    rcases List.mem_append.1 hd' with q | q
    ·rcases List.mem_append.1 q with q | q
     ·rw[decide_eq_true q,decide_eq_false (n1 q).1,decide_eq_false (n1 q).2];rfl
     rw[decide_eq_false fun r=>(n1 r).1 q,decide_eq_true q,decide_eq_false (n2 q)];rfl
    rw[decide_eq_false fun r=>(n1 r).2 q,decide_eq_false fun r=>n2 r q,decide_eq_true q];rfl
   rw[decide_eq_false hd,decide_eq_false fun q=>hd (inf f1 q),decide_eq_false fun q=>hd (inf f2 q),decide_eq_false fun q=>hd (inf f3 q)];rfl
  have e2:(decide (d∈u1 :: C1) ^^ (decide (d∈u2 :: C2) ^^ decide (d∈u3 :: C3)))=(s&&decide (d∈k)):=by
   by_cases hd:d∈k
   ·rw[hs d hd,decide_eq_true hd,Bool.and_true]
   have ik:∀ {M N:List Int},Rolled k (M++N)→d ∉ M:=fun hr q=>hd (hr.perm.mem_iff.2 (List.mem_append.2 (Or.inl q)))
   rw[decide_eq_false hd,decide_eq_false (ik r1),decide_eq_false (ik r2),decide_eq_false (ik r3),Bool.and_false];rfl
  rw[←e1,←e2]
  unfold mk2
  generalize decide (d∈ox :: P)=z1
  generalize decide (d∈oy :: Q)=z2
  generalize decide (d∈oz :: R)=z3
  generalize decide (d∈u1 :: C1)=z4
  generalize decide (d∈u2 :: C2)=z5
  generalize decide (d∈u3 :: C3)=z6
  cases z1 <;> cases z2 <;> cases z3 <;> cases z4 <;> cases z5 <;> cases z6 <;> rfl
 have same:∀ d∈p.darts,∀ {l},l∈F→(nextDart g turn d∈l↔d∈l):=fun d hd l hl=>by
  obtain⟨i,hi,hdi⟩:=List.mem_flatten.1 (h.all.mem_iff.2 hd)
  have hni:nextDart g turn d∈i:=((h.rings.ring i hi).map_perm).mem_iff.1 (List.mem_map.2 ⟨d,hdi,rfl⟩)
  exact⟨fun q=>(list_one h.rings.nodup hi hl hni q) ▸ hdi,fun q=>(list_one h.rings.nodup hi hl hdi q) ▸ hni⟩
 have all:=turn_const h (ψ:=fun d=>φ1 d ^^ (φ2 d ^^ φ3 d)) (m:=fun d=>mk2 (ox :: P) (u1 :: C1) d ^^ (mk2 (oy :: Q) (u2 :: C2) d ^^ mk2 (oz :: R) (u3 :: C3) d))
  (fun d hd=>by show (φ1 _ ^^ (φ2 _ ^^ φ3 _))=_;rw[c1.sym d hd,c2.sym d hd,c3.sym d hd])
  (fun d hd=>by
   have q1:=c1.next d hd
   have q2:=c2.next d hd
   have q3:=c3.next d hd
   revert q1 q2 q3
   show _→_→_→((φ1 (nextDart g turn d) ^^ (φ2 (nextDart g turn d) ^^ φ3 (nextDart g turn d))) ^^ (mk2 (ox :: P) (u1 :: C1) (nextDart g turn d) ^^ (mk2 (oy :: Q) (u2 :: C2) (nextDart g turn d) ^^ mk2 (oz :: R) (u3 :: C3) (nextDart g turn d))))=((φ1 d ^^ (φ2 d ^^ φ3 d)) ^^ (mk2 (ox :: P) (u1 :: C1) d ^^ (mk2 (oy :: Q) (u2 :: C2) d ^^ mk2 (oz :: R) (u3 :: C3) d)))
   generalize mk2 (ox :: P) (u1 :: C1) (nextDart g turn d)=m1
   generalize mk2 (oy :: Q) (u2 :: C2) (nextDart g turn d)=m2
   generalize mk2 (oz :: R) (u3 :: C3) (nextDart g turn d)=m3
   generalize mk2 (ox :: P) (u1 :: C1) d=m4
   generalize mk2 (oy :: Q) (u2 :: C2) d=m5
   generalize mk2 (oz :: R) (u3 :: C3) d=m6
   generalize φ1 (nextDart g turn d)=p1
   generalize φ2 (nextDart g turn d)=p2
   generalize φ3 (nextDart g turn d)=p3
   intro q1 q2 q3
   have e1:p1=((φ1 d ^^ m4) ^^ m1):=by rw[←q1];cases p1 <;> cases m1 <;> rfl
   have e2:p2=((φ2 d ^^ m5) ^^ m2):=by rw[←q2];cases p2 <;> cases m2 <;> rfl
   have e3:p3=((φ3 d ^^ m6) ^^ m3):=by rw[←q3];cases p3 <;> cases m3 <;> rfl
   rw[e1,e2,e3]
   generalize φ1 d=a
   generalize φ2 d=b
   generalize φ3 d=c
   cases m1 <;> cases m2 <;> cases m3 <;> cases m4 <;> cases m5 <;> cases m6 <;> cases a <;> cases b <;> cases c <;> rfl)
  (v:=g.tail ox) (fun d hd _=>by
   show (mk2 _ _ _ ^^ (mk2 _ _ _ ^^ mk2 _ _ _))=(mk2 _ _ _ ^^ (mk2 _ _ _ ^^ mk2 _ _ _))
   rw[hm,hm,decide_eq_decide.2 (same d hd hf),decide_eq_decide.2 (same d hd hk)]) (hin hf mx) (hin hj ex1) rfl ex2
 have all:(φ1 ox ^^ (φ2 ox ^^ φ3 ox))=(φ1 ex ^^ (φ2 ex ^^ φ3 ex)):=all
 rw[v2'] at all
 rw[v1'] at w1
 rw[v3'] at w3
 revert all w1 w3 j1 j3
 cases φ1 ox <;> cases φ1 ex <;> cases φ1 ez <;> cases φ2 ex <;> cases φ3 ox <;> cases φ3 ex <;> cases φ3 ey <;> simp
theorem roll_three {k:List Int} {x y z:Int} (hx:x∈k.map g.tail) (hy:y∈k.map g.tail) (hz:z∈k.map g.tail) (hxy:x≠y) (hyz:y≠z) (hxz:x≠z) :
  ∃ ox P oy Q oz R,(Rolled k (ox :: P++oy :: Q++oz :: R)∨Rolled k (ox :: P++oz :: Q++oy :: R))∧g.tail ox=x∧g.tail oy=y∧g.tail oz=z:=by
 obtain⟨u,C,v,D,hr,e1,e2⟩:=face_two hx hy hxy
 obtain⟨w,hw,e3⟩:=dart_of hz
 have hw':=hr.perm.mem_iff.1 hw
 have w1:w≠u:=fun q=>hxz (by rw[←e1,←e3,q])
 have w2:w≠v:=fun q=>hyz (by rw[←e2,←e3,q])
 rcases List.mem_append.1 hw' with q | q
 ·obtain⟨C1,C2,rfl⟩:=List.append_of_mem ((List.mem_cons.1 q).resolve_left w1)
  exact⟨u,C1,v,C2,w,D,Or.inr (by simpa using hr),e1,e2,e3⟩
 obtain⟨D1,D2,rfl⟩:=List.append_of_mem ((List.mem_cons.1 q).resolve_left w2)
 exact⟨u,C,v,D1,w,D2,Or.inl (by simpa using hr),e1,e2,e3⟩
theorem third_tri (h:Faces g p turn F) (hf:f∈F) (hk:k∈F) (hj:j∈F) (hfk:f≠k) (hfj:f≠j) (hkj:k≠j) {x y z:Int} (hxy:x≠y) (hyz:y≠z) (hxz:x≠z)
  (hx:x∈f.map g.tail∧x∈k.map g.tail∧x∈j.map g.tail) (hy:y∈f.map g.tail∧y∈k.map g.tail∧y∈j.map g.tail) (hz:z∈f.map g.tail∧z∈k.map g.tail∧z∈j.map g.tail):False:=by
 have key:∀ {x y z:Int},x≠y→y≠z→x≠z→x∈k.map g.tail∧x∈j.map g.tail→y∈k.map g.tail∧y∈j.map g.tail→z∈k.map g.tail∧z∈j.map g.tail→∀ {ox P oy Q oz R},Rolled f (ox :: P++oy :: Q++oz :: R)→g.tail ox=x→g.tail oy=y→g.tail oz=z→False:=by
  intro x y z hxy hyz hxz hx hy hz ox P oy Q oz R hr e1 e2 e3
  subst e1 e2 e3
  obtain⟨kx,P',ky,Q',kz,R',hk3,i1,i2,i3⟩:=roll_three hx.1 hy.1 hz.1 hxy hyz hxz
  have hkn:k.Nodup:=nodup_of_map (h.simple k hk)
  rcases hk3 with q | q
  ·have r1:Rolled k (kx :: P'++ky :: (Q'++kz :: R')):=by simpa using q
   have r2:Rolled k (ky :: Q'++kz :: (R'++kx :: P')):=r1.trans ⟨kx :: P',ky :: (Q'++kz :: R'),rfl,by simp⟩
   have r3:Rolled k (kz :: R'++kx :: (P'++ky :: Q')):=r1.trans ⟨kx :: P'++ky :: Q',kz :: R',by simp,by simp⟩
   have n1:=(r1.perm.nodup_iff).1 hkn
   have n2:=(r2.perm.nodup_iff).1 hkn
   have g1:∀ d∈kx :: P',d ∉ ky :: Q'∧d ∉ kz :: R':=fun d hd=>⟨fun r=>(List.nodup_append.1 n1).2.2 d hd d (by simp at r ⊢;rcases r with r | r <;> simp[r]) rfl,fun r=>(List.nodup_append.1 n1).2.2 d hd d (by simp at r ⊢;rcases r with r | r <;> simp[r]) rfl⟩
   have g2:∀ d∈ky :: Q',d ∉ kz :: R':=fun d hd r=>(List.nodup_append.1 n2).2.2 d hd d (by simp at r ⊢;rcases r with r | r <;> simp[r]) rfl
   refine tri_key h hf hk hj hfk hfj hkj hr r1 r2 r3 i1 i2 i2 i3 i3 i1 true (fun d hd=>?_) hx.2 hy.2 hz.2
   rcases List.mem_append.1 (q.perm.mem_iff.1 hd) with w | w
   ·rcases List.mem_append.1 w with w | w
    ·rw[decide_eq_true w,decide_eq_false (g1 d w).1,decide_eq_false (g1 d w).2];rfl
    rw[decide_eq_false fun r=>(g1 d r).1 w,decide_eq_true w,decide_eq_false (g2 d w)];rfl
   rw[decide_eq_false fun r=>(g1 d r).2 w,decide_eq_false fun r=>g2 d r w,decide_eq_true w];rfl
  -- the other order: x,z,y
  have r1:Rolled k (kx :: (P'++kz :: Q')++ky :: R'):=by simpa using q
  have r2:Rolled k (ky :: (R'++kx :: P')++kz :: Q'):=r1.trans ⟨kx :: P'++kz :: Q',ky :: R',by simp,by simp⟩
  have r3:Rolled k (kz :: (Q'++ky :: R')++kx :: P'):=r1.trans ⟨kx :: P',kz :: Q'++ky :: R',by simp,by simp⟩
  have n1:=(r1.perm.nodup_iff).1 hkn
  have g1:∀ d∈ky :: R',d ∉ kx :: P'∧d ∉ kz :: Q':=fun d hd=>⟨fun r=>(List.nodup_append.1 n1).2.2 d (by simp at r ⊢;rcases r with r | r <;> simp[r]) d hd rfl,fun r=>(List.nodup_append.1 n1).2.2 d (by simp at r ⊢;rcases r with r | r <;> simp[r]) d hd rfl⟩
  have g2:∀ d∈kx :: P',d ∉ kz :: Q':=fun d hd r=>by
   have n3:(kx :: P'++kz :: Q').Nodup:=(List.nodup_append.1 (show (kx :: P'++kz :: Q'++ky :: R').Nodup by simpa using n1)).1
   exact (List.nodup_append.1 n3).2.2 d hd d r rfl
  have c1:∀ d,decide (d∈kx :: (P'++kz :: Q'))=(decide (d∈kx :: P') || decide (d∈kz :: Q')):=fun d=>by
   rw[←Bool.decide_or];exact decide_eq_decide.2 (by rw[←List.mem_append];rfl)
  have c2:∀ d,decide (d∈ky :: (R'++kx :: P'))=(decide (d∈ky :: R') || decide (d∈kx :: P')):=fun d=>by
   rw[←Bool.decide_or];exact decide_eq_decide.2 (by rw[←List.mem_append];rfl)
  have c3:∀ d,decide (d∈kz :: (Q'++ky :: R'))=(decide (d∈kz :: Q') || decide (d∈ky :: R')):=fun d=>by
   rw[←Bool.decide_or];exact decide_eq_decide.2 (by rw[←List.mem_append];rfl)
  refine tri_key h hf hk hj hfk hfj hkj hr r1 r2 r3 i1 i2 i2 i3 i3 i1 false (fun d hd=>?_) hx.2 hy.2 hz.2
  rw[c1,c2,c3]
  rcases List.mem_append.1 (q.perm.mem_iff.1 hd) with w | w
  ·rcases List.mem_append.1 w with w | w
   ·rw[decide_eq_true w,decide_eq_false (g2 d w),decide_eq_false fun r=>(g1 d r).1 w];rfl
   rw[decide_eq_false fun r=>g2 d r w,decide_eq_true w,decide_eq_false fun r=>(g1 d r).2 w];rfl
  rw[decide_eq_false (g1 d w).1,decide_eq_false (g1 d w).2,decide_eq_true w];rfl
 obtain⟨ox,P,oy,Q,oz,R,hr,e1,e2,e3⟩:=roll_three hx.1 hy.1 hz.1 hxy hyz hxz
 rcases hr with hr | hr
 ·exact key hxy hyz hxz hx.2 hy.2 hz.2 hr e1 e2 e3
 exact key hxz (Ne.symm hyz) hxy hx.2 hz.2 hy.2 hr e1 e3 e2
theorem no_conf (h:Faces g p turn F) (hf:f∈F) (hk:k∈F) (hj:j∈F) (hfk:f≠k) (hfj:f≠j) (hkj:k≠j) {S T:List Int} (hSf:∀ v∈S,v∈f.map g.tail) (hS:∀ v∈S,v∈k.map g.tail) (hT:∀ v∈T,v∈j.map g.tail):¬ Conf (f.map g.tail) S T:=by
 rintro (⟨x,hx,y,hy,z,hz,w,hw,A,B,hr,hA,hB⟩ | ⟨x,y,z,hx,hy,hz,hxy,hyz,hxz⟩)
 ·exact third_face h hf hk hj hfk hfj hkj hr (hS x hx) (hS y hy) (hT z hz) (hT w hw) hA hB
 exact third_tri h hf hk hj hfk hfj hkj hxy hyz hxz ⟨hSf x hx.1,hS x hx.1,hT x hx.2⟩ ⟨hSf y hy.1,hS y hy.1,hT y hy.2⟩ ⟨hSf z hz.1,hS z hz.1,hT z hz.2⟩
end Go.Proofs.Ytbkjljffnkdcjaa.Plain
