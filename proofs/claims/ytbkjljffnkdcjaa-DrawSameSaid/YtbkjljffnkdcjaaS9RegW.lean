/- plan.Region: its contract. Conditions: a graph, a part, a plan that lie in memory and read so, of a bounded size. -/
import Derived.Test.YtbkjljffnkdcjaaS9TurnP
namespace Go.Proofs.Ytbkjljffnkdcjaa
open Go.RowKit Go.Maps
theorem contains_any (v:Value) (l:List Int) (x:Int) (w:World) (h:IntsAt w v l) :
  Calls Try.prog 56 #[v,.int .i64 x] w fun e w'=>e=.returned (.bool (decide (x∈l)))∧w'=w:=by
 obtain⟨ao,cap,rfl,-,hm,hc⟩:=h
 cases l with
 | nil =>
  refine (Try.slices_Contains_int_empty ao cap x w).mono ?_
  rintro e w' ⟨rfl,rfl⟩
  exact⟨ret_bool (by simp),rfl⟩
 | cons y r =>
  obtain⟨b,off,rfl,hc2⟩:=hc (by simp)
  refine (Try.slices_Contains_int b off (y :: r).length cap (y :: r) x w (Nat.le_refl _) hm hc2).mono ?_
  rintro e w' ⟨rfl,rfl⟩
  exact⟨ret_bool (by rw[List.take_length];simp),rfl⟩
namespace Plain
end Plain
namespace Plain
end Plain
theorem clone_any (v:Value) (l:List Int) (w:World) (hl:l.length≤1000000000) (h:IntsAt w v l) :
  Calls Try.prog 66 #[v] w fun e w'=>∃ v',e=.returned v'∧RowAt w' w.heap.size v' l∧Chg [] w w':=by
 obtain⟨ao,cap,rfl,hsm,hm,hc⟩:=h
 cases l with
 | nil =>
  cases ao with
  | none =>
   refine (Try.slices_Clone_int_nil 0 cap w).mono ?_
   rintro e w' ⟨rfl,rfl⟩
   exact⟨_,rfl,rowNil' _ _,Chg.refl _ _⟩
  | some ad =>
   refine (Try.slices_Clone_int_zero ad cap w).mono ?_
   rintro e w' ⟨v',rfl,h1,-,h3⟩
   exact⟨_,rfl,⟨h1,by simp,by simp⟩,Chg.of_below h3 (Nat.le_refl _)⟩
 | cons y r =>
  obtain⟨b,off,rfl,hc2⟩:=hc (by simp)
  refine (Try.slices_Clone_int b off (y :: r).length cap (y :: r) w (Nat.le_refl _) (by omega) hc2).mono ?_
  rintro e w' ⟨v',rfl,h1,-,h3⟩
  rw[List.take_length] at h1
  exact⟨_,rfl,⟨h1,hsm,by omega⟩,Chg.of_below h3 (Nat.le_refl _)⟩
theorem wp_apprun {o:Oper} {a:Act} {K:Act→World→Prop} {Q:Exit→Act→World→Prop} {w w':World} (s x:Operand) (t:TypeId) (ho:o.op=.call { callee:=.builtin .append,args:=#[s,x],argTypes:=#[t,t] }) {v u r:Value} (hs:a.eval s=v) (hx:a.eval x=u)
  (hr:(Builtin.append_ #[t,t] o.type #[v,u]).run Try.prog w=.ok r w') (hK:K (a.put o.dst r) w'):o.wp Try.prog a w K Q:=by
 unfold Oper.wp execOp
 simp only[ho,resolve,invoke,builtin,Sem.run_bind,Sem.run_pure,Result.andThen_ok,List.map_toArray,List.map_cons,List.map_nil,hs,hx,hr]
 exact hK
namespace Plain
end Plain
end Go.Proofs.Ytbkjljffnkdcjaa
