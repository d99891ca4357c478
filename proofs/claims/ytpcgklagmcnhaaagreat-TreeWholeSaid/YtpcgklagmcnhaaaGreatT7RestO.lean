/- rest.To's last part: the lists by their first numbers. Conditions: what each law says. -/
import Derived.Test.YtpcgklagmcnhaaaGreatT7Cyc10
-- READS ONLY
namespace Go.Proofs.YtpcgklagmcnhaaaGreat
open Go.RowKit Go.Maps
end Go.Proofs.YtpcgklagmcnhaaaGreat
-- READS ONLY
namespace Go.Proofs.YtpcgklagmcnhaaaGreat
open Go.RowKit Go.Maps
namespace Plain
end Plain
namespace Plain
end Plain
namespace Plain
end Plain
namespace Plain
end Plain
end Go.Proofs.YtpcgklagmcnhaaaGreat
namespace Go.Proofs.YtpcgklagmcnhaaaGreat.Plain
open Classical in
noncomputable def reps (R : Int → Int → Prop) : List Int → List Int
 | [] => []
 | x :: K => if ∃ y ∈ reps R K, R x y then reps R K else x :: reps R K
noncomputable def cnt (R : Int → Int → Prop) (K : List Int) : Nat := (reps R K).length
def tw : List Int → Int → Int
 | [], d => d
 | e :: S, d => tw S (swp (2 * e) (2 * e + 1) d)
end Go.Proofs.YtpcgklagmcnhaaaGreat.Plain
namespace Go.Proofs.YtpcgklagmcnhaaaGreat.Plain
theorem Come.congr {g : Gr} {p q : Pt} {s a b : Int} (he : p.e = q.e) (h : Come g p s a b) : Come g q s a b := by
 induction h with
 | here => exact .here
 | step _ hn hs ih =>
  obtain ⟨e, h1, h2⟩ := hn
  exact ih.step ⟨e, he ▸ h1, h2⟩ hs
noncomputable def cls (g : Gr) (p : Pt) (turn same : List (List Int)) (f : Face) : Int := numOf (regionsOf g p turn same) f.1
theorem rise_ext : ∀ {l m : List Int}, l.Pairwise (· < ·) → m.Pairwise (· < ·) → (∀ x, x ∈ l ↔ x ∈ m) → l = m
 | [], [], _, _, _ => rfl
 | [], y :: m, _, _, h => by have := (h y).2 (by simp); simp at this
 | x :: l, [], _, _, h => by have := (h x).1 (by simp); simp at this
 | x :: l, y :: m, h1, h2, h => by
  rw [List.pairwise_cons] at h1 h2
  have e : x = y := by
   rcases List.mem_cons.1 ((h x).1 (by simp)) with q | q
   ·exact q
   rcases List.mem_cons.1 ((h y).2 (by simp)) with r | r
   ·exact r.symm
   have := h1.1 y r; have := h2.1 x q; omega
  subst e
  rw [rise_ext h1.2 h2.2 fun z => ?_]
  constructor
  ·intro hz
   rcases List.mem_cons.1 ((h z).1 (by simp [hz])) with q | q
   ·have := h1.1 z hz; omega
   exact q
  intro hz
  rcases List.mem_cons.1 ((h z).2 (by simp [hz])) with q | q
  ·have := h2.1 z hz; omega
  exact q
def back (l : List Int) (u : Int) : List Int := (l.take (l.idxOf u + 1)).reverse ++ (l.drop (l.idxOf u + 1)).reverse
section
variable {g : Gr} {p q : Pt} {turn : List (List Int)}
end
end Go.Proofs.YtpcgklagmcnhaaaGreat.Plain
