/- A region that draws its order, whose operations read, or make what then stays: walked one operation at a time, each from whatever the others have left. No program here. -/
import Derived.Deep.RegionHeld3
import Derived.WalkKit
import Derived.Test.YtpbljifejopecaaVBase
namespace Go.Proofs.Ytpbljifejopecaa
open Go

section
variable {P : Program} {ops : Array Oper} {Q : Exit → Act → World → Prop} {md : Region.Mode}

/-- The frame with a value for each operation's slot. -/
def fillL (vals : Nat → Value) : Nat → List Oper → Act → Act
  | _, [], a => a
  | i, o :: r, a => fillL vals (i + 1) r (a.put o.dst (vals i))

theorem put_comm (a : Act) {d e : Option Nat} (u v : Value) (h : ∀ x, d = some x → e ≠ some x) : (a.put d u).put e v = (a.put e v).put d u := by
  cases d with
  | none => rfl
  | some x =>
    cases e with
    | none => rfl
    | some y =>
      have : x ≠ y := fun q => h x rfl (by rw [q])
      simp only [Act.put, Array.setIfInBounds_comm _ _ this]

theorem put_put (a : Act) (d : Option Nat) (u v : Value) : (a.put d u).put d v = a.put d v := by
  cases d with
  | none => rfl
  | some x => simp only [Act.put, Array.setIfInBounds_setIfInBounds]

theorem fillL_put (vals : Nat → Value) (d : Option Nat) (v : Value) : ∀ (l : List Oper) (i : Nat) (a : Act), (∀ o ∈ l, ∀ x, d = some x → o.dst ≠ some x) → fillL vals i l (a.put d v) = (fillL vals i l a).put d v
  | [], _, _, _ => rfl
  | o :: r, i, a, h => by
    simp only [fillL]
    rw [put_comm a v (vals i) (h o (by simp)), fillL_put vals d v r (i + 1) _ (fun o ho => h o (by simp [ho]))]

def upd (vals : Nat → Value) (i : Nat) (v : Value) : Nat → Value := fun j => if j = i then v else vals j

theorem fillL_above (vals : Nat → Value) (k : Nat) (v : Value) : ∀ (l : List Oper) (i : Nat) (a : Act), k < i → fillL (upd vals k v) i l a = fillL vals i l a
  | [], _, _, _ => rfl
  | o :: r, i, a, h => by
    simp only [fillL]
    rw [fillL_above vals k v r (i + 1) _ (by omega), show upd vals k v i = vals i from if_neg (by omega)]

def apart : List Oper → Bool
  | [] => true
  | o :: r => (match o.dst with | none => true | some x => r.all fun p => p.dst != some x) && apart r

theorem apart_spec {o : Oper} {r : List Oper} (h : apart (o :: r) = true) : (∀ p ∈ r, ∀ x, o.dst = some x → p.dst ≠ some x) ∧ apart r = true := by
  rw [apart, Bool.and_eq_true] at h
  refine ⟨fun p hp x hx => ?_, h.2⟩
  have := h.1
  rw [hx] at this
  simpa using List.all_eq_true.1 this p hp

theorem fillL_upd (vals : Nat → Value) (v : Value) : ∀ (l : List Oper) (i k : Nat) (o : Oper) (a : Act), apart l = true → l[k]? = some o → fillL (upd vals (i + k) v) i l a = (fillL vals i l a).put o.dst v
  | [], _, _, _, _, _, hk => by simp at hk
  | p :: r, i, 0, o, a, ha, hk => by
    simp only [List.getElem?_cons_zero, Option.some.injEq] at hk
    subst hk
    have := apart_spec ha
    simp only [fillL, Nat.add_zero]
    rw [fillL_above vals i v r (i + 1) _ (by omega), show upd vals i v i = v from if_pos rfl, ← put_put a p.dst (vals i) v, fillL_put vals p.dst v r (i + 1) _ this.1]
  | p :: r, i, k + 1, o, a, ha, hk => by
    simp only [List.getElem?_cons_succ] at hk
    simp only [fillL]
    rw [show upd vals (i + (k + 1)) v i = vals i from if_neg (by omega), show i + (k + 1) = (i + 1) + k by omega]
    exact fillL_upd vals v r (i + 1) k o _ (apart_spec ha).2 hk

def held (a : Act) (o : Oper) : Value := match o.dst with | none => undef | some x => a.tmps.getD x undef

theorem put_own (a : Act) (o : Oper) : a.put o.dst (held a o) = a := by
  unfold held
  cases hd : o.dst with
  | none => rfl
  | some x =>
    simp only [Act.put]
    have : a.tmps.setIfInBounds x (a.tmps.getD x undef) = a.tmps := by
      apply Array.ext
      · simp
      · intro i h1 h2
        rw [Array.getElem_setIfInBounds]
        · split
          · rename_i e; subst e; simp [Array.getD, h2]
          · rfl
    rw [this]

theorem fillL_own (vals : Nat → Value) (a : Act) : ∀ (l : List Oper) (i : Nat), (∀ k o, l[k]? = some o → vals (i + k) = held a o) → fillL vals i l a = a
  | [], _, _ => rfl
  | o :: r, i, h => by
    simp only [fillL]
    rw [show vals i = held a o by simpa using h 0 o rfl, put_own]
    exact fillL_own vals a r (i + 1) (fun k p hk => by rw [← h (k + 1) p (by simpa using hk)]; congr 1; omega)

/-- Facts of those operations that one leans on. -/
def Facts (L : List (Value → World → Prop)) (vals : Nat → Value) (w : World) : List Nat → Prop
  | [] => True
  | d :: r => (L.getD d (fun _ _ => True)) (vals d) w ∧ Facts L vals w r

def FactsAll (vals : Nat → Value) (w : World) : Nat → List (Value → World → Prop) → Prop
  | _, [] => True
  | i, p :: r => p (vals i) w ∧ FactsAll vals w (i + 1) r

/-- What an operation leans on; whose rows it takes over; whether it makes a row (or more). -/
structure Info where
  deps : List Nat
  con : List Nat
  lin : Bool

/-- The rows of a value. -/
def foot : Value → List Nat
  | .agg vs => vs.toList.flatMap fun v => v.ownBlock.toList
  | v => v.ownBlock.toList

/-- The rows of some operations' values. -/
def foots (vals : Nat → Value) (l : List Nat) : List Nat := l.flatMap fun j => foot (vals j)

def Firm (lin : Bool) (p : Value → World → Prop) : Prop :=
  if lin = true then (∀ X u w w', Chg X w w' → (∀ b ∈ foot u, b ∉ X) → p u w → p u w') ∧ (∀ u w, p u w → ∀ b ∈ foot u, b < w.heap.size) else ∀ u w w', p u w → p u w'

def Obl (P : Program) (ops : Array Oper) (Q : Exit → Act → World → Prop) (G : World → Prop) (fr : (Nat → Value) → Act) (z : Nat) (L : List (Value → World → Prop)) (i : Nat) (o : Oper) (d : Info) (p : Value → World → Prop) : Prop :=
  (i = z ∨ Firm d.lin p) ∧ ∀ vals w, G w → Facts L vals w d.deps →
    wpOp P ops Q i (fun a' w' => ∃ v, a' = (fr vals).put o.dst v ∧ p v w' ∧ (i = z ∨ Chg (foots vals d.con) w w') ∧ (i = z ∨ d.lin = false ∨ ∀ b ∈ foot v, b ∈ foots vals d.con ∨ w.heap.size ≤ b) ∧ (i = z ∨ G w')) (fr vals) w

def Mono (P : Program) (ops : Array Oper) (Q : Exit → Act → World → Prop) (G : World → Prop) (fr : (Nat → Value) → Act) (z : Nat) (fin : List Nat) (L : List (Value → World → Prop)) : Nat → List (Oper × Info) → Prop
  | _, [] => ∀ vals w, (ops.size ≤ z → G w) → Facts L vals w fin → Q .normal (fr vals) w
  | i, (o, d) :: r => ∃ p, Obl P ops Q G fr z L i o d p ∧ Mono P ops Q G fr z fin (L ++ [p]) (i + 1) r

theorem facts_congr {L L' : List (Value → World → Prop)} {vals : Nat → Value} {w : World} : ∀ {d : List Nat}, (∀ x ∈ d, L.getD x (fun _ _ => True) = L'.getD x (fun _ _ => True)) → Facts L vals w d = Facts L' vals w d
  | [], _ => rfl
  | x :: r, h => by
    simp only [Facts]
    rw [h x (by simp), facts_congr (fun y hy => h y (by simp [hy]))]

theorem facts_of {L : List (Value → World → Prop)} {vals : Nat → Value} {w : World} : ∀ {d : List Nat}, (∀ x ∈ d, (L.getD x (fun _ _ => True)) (vals x) w) → Facts L vals w d
  | [], _ => trivial
  | x :: r, h => ⟨h x (by simp), facts_of (fun y hy => h y (by simp [hy]))⟩

theorem factsAll_of {vals : Nat → Value} {w : World} : ∀ {L : List (Value → World → Prop)} {i : Nat}, (∀ j, j < L.length → (L.getD j (fun _ _ => True)) (vals (i + j)) w) → FactsAll vals w i L
  | [], _, _ => trivial
  | p :: r, i, h => ⟨by simpa using h 0 (by simp), factsAll_of (fun j hj => by have := h (j + 1) (by simp; omega); rw [show i + (j + 1) = i + 1 + j by omega] at this; simpa using this)⟩


variable {G : World → Prop} {fr : (Nat → Value) → Act} {z : Nat} {fin : List Nat}

theorem mono_out : ∀ (todo : List (Oper × Info)) (i : Nat) (L : List (Value → World → Prop)), L.length = i → Mono P ops Q G fr z fin L i todo → (∀ k o d, todo[k]? = some (o, d) → ∀ x ∈ d.deps, x < i + k) →
    ∃ L' : List (Value → World → Prop), L'.length = i + todo.length ∧ (∀ j, j < i → L'.getD j (fun _ _ => True) = L.getD j (fun _ _ => True)) ∧
      (∀ k o d, todo[k]? = some (o, d) → Obl P ops Q G fr z L' (i + k) o d (L'.getD (i + k) (fun _ _ => True))) ∧ (∀ vals w, (ops.size ≤ z → G w) → Facts L' vals w fin → Q .normal (fr vals) w)
  | [], i, L, hl, h, _ => ⟨L, hl, fun _ _ => rfl, by simp, h⟩
  | (o, d) :: r, i, L, hl, h, hd => by
    obtain ⟨p, ho, h⟩ := h
    obtain ⟨L', h1, h2, h3, h4⟩ := mono_out r (i + 1) (L ++ [p]) (by simp [hl]) h (fun k o d hk x hx => by have := hd (k + 1) o d (by simpa using hk) x hx; omega)
    have hold : ∀ j, j < i → L'.getD j (fun _ _ => True) = L.getD j (fun _ _ => True) := fun j hj => by
      rw [h2 j (by omega)]
      simp [List.getD, List.getElem?_append_left (show j < L.length by omega)]
    refine ⟨L', by simp [h1]; omega, hold, fun k o' d' hk => ?_, h4⟩
    cases k with
    | zero =>
      simp only [List.getElem?_cons_zero, Option.some.injEq, Prod.mk.injEq] at hk
      obtain ⟨rfl, rfl⟩ := hk
      have e : L'.getD (i + 0) (fun _ _ => True) = p := by
        rw [h2 _ (by omega)]
        subst hl
        simp [List.getD]
      rw [e]
      refine ⟨ho.1, fun vals w hG hF => ho.2 vals w hG ?_⟩
      rwa [← facts_congr (fun x hx => hold x (by simpa using hd 0 o d rfl x hx))]
    | succ k =>
      have := h3 k o' d' (by simpa using hk)
      rwa [show i + (k + 1) = i + 1 + k by omega]

/-- Listed, and taken over by none that is listed. -/
def Live (info : Nat → Info) (n : Nat) (listed : Array Bool) (j : Nat) : Prop := listed.getD j false = true ∧ ∀ i, i < n → listed.getD i false = true → j ∉ (info i).con

theorem mem_foots {vals : Nat → Value} {l : List Nat} {b : Nat} : b ∈ foots vals l ↔ ∃ j ∈ l, b ∈ foot (vals j) := by simp [foots]

theorem wpAny_mono {a0 : Act} {info : Nat → Info} {I : Nat → Value → World → Prop} (hfr : ∀ vals, fr vals = fillL vals 0 ops.toList a0) (hap : apart ops.toList = true)
    (hacy : ∀ j oj, ops[j]? = some oj → ∀ e ∈ oj.after, Region.binds md e = true → e.on < j) (hdeps : ∀ j oj, ops[j]? = some oj → ∀ x ∈ (info j).deps, ∃ e ∈ oj.after, Region.binds md e = true ∧ e.on = x)
    (hcon : ∀ i, i < ops.size → ∀ x ∈ (info i).con, x ∈ (info i).deps ∧ (info x).lin = true) (huse : ∀ i k x, i < ops.size → k < ops.size → x ∈ (info i).deps → x ∈ (info k).con → i = k)
    (hready : ∀ listed : Array Bool, listed.size = ops.size → (∀ j oj, ops[j]? = some oj → listed.getD j false = true → ∀ e ∈ oj.after, Region.binds md e = true → listed.getD e.on false = true) → z < ops.size → z ∈ Region.ready md ops listed → ∀ j, j < ops.size → j ≠ z → listed.getD j false = true)
    (hop : ∀ i o, ops[i]? = some o → (i = z ∨ Firm (info i).lin (I i)) ∧ ∀ vals w, G w → (∀ x ∈ (info i).deps, I x (vals x) w) →
      wpOp P ops Q i (fun a' w' => ∃ v, a' = (fr vals).put o.dst v ∧ I i v w' ∧ (i = z ∨ Chg (foots vals (info i).con) w w') ∧ (i = z ∨ (info i).lin = false ∨ ∀ b ∈ foot v, b ∈ foots vals (info i).con ∨ w.heap.size ≤ b) ∧ (i = z ∨ G w')) (fr vals) w)
    (hend : ∀ vals w, (ops.size ≤ z → G w) → (∀ j, j < ops.size → j ≠ z → (info j).lin = false → I j (vals j) w) → (z < ops.size → I z (vals z) w) →
      (ops.size ≤ z → ∀ j, j < ops.size → (∀ i, i < ops.size → j ∉ (info i).con) → I j (vals j) w) → Q .normal (fr vals) w) :
    ∀ (fuel : Nat) (listed : Array Bool) (vals : Nat → Value) (w : World), listed.size = ops.size → (List.range ops.size).countP (fun j => !listed.getD j false) ≤ fuel →
      (∀ j oj, ops[j]? = some oj → listed.getD j false = true → ∀ e ∈ oj.after, Region.binds md e = true → listed.getD e.on false = true) →
      listed.getD z false = false → (∀ j, listed.getD j false = true → (info j).lin = false → I j (vals j) w) →
      (∀ j, Live info ops.size listed j → (info j).lin = true → I j (vals j) w) →
      (∀ j k, j ≠ k → Live info ops.size listed j → Live info ops.size listed k → (info j).lin = true → (info k).lin = true → ∀ b ∈ foot (vals j), b ∉ foot (vals k)) → G w → wpAny P md ops Q fuel listed (fr vals) w := by
  have hall : ∀ listed : Array Bool, listed.size = ops.size → Region.ready md ops listed = [] → ∀ j, j < ops.size → listed.getD j false = true := by
    intro listed hs hnil j
    induction j using Nat.strongRecOn with
    | _ j ih =>
      intro hj
      apply Classical.byContradiction
      intro hc
      have : j ∈ Region.ready md ops listed := by
        refine mem_ready.2 ⟨?_, ops[j], Array.getElem?_eq_getElem hj, fun e he hb => ih e.on (hacy j _ (Array.getElem?_eq_getElem hj) e he hb) (by have := hacy j _ (Array.getElem?_eq_getElem hj) e he hb; omega)⟩
        have hl : j < listed.size := by omega
        simp [hl] at hc ⊢
        exact hc
      rw [hnil] at this
      cases this
  have hdone : ∀ listed : Array Bool, listed.size = ops.size → (∀ j, j < ops.size → listed.getD j false = true) → Region.ready md ops listed = [] := by
    intro listed hs ha
    refine List.eq_nil_iff_forall_not_mem.2 fun j hj => ?_
    obtain ⟨h0, o, ho, -⟩ := mem_ready.1 hj
    have hlt : j < ops.size := (Array.getElem?_eq_some_iff.1 ho).1
    have h1 := ha j hlt
    have hl : j < listed.size := by omega
    simp [hl] at h0 h1
    rw [h0] at h1
    cases h1
  have hfin : ∀ (listed : Array Bool) (vals : Nat → Value) (w : World), listed.size = ops.size → listed.getD z false = false → (∀ j, listed.getD j false = true → (info j).lin = false → I j (vals j) w) →
      (∀ j, Live info ops.size listed j → (info j).lin = true → I j (vals j) w) → G w → (∀ j, j < ops.size → listed.getD j false = true) → Q .normal (fr vals) w := by
    intro listed vals w hs hnz h1 h2 hG ha
    have hzn : ops.size ≤ z := by
      apply Nat.le_of_not_lt
      intro q
      rw [ha z q] at hnz
      cases hnz
    refine hend vals w (fun _ => hG) (fun j hj _ hl => h1 j (ha j hj) hl) (fun q => by omega) (fun _ j hj hno => ?_)
    cases hl : (info j).lin with
    | false => exact h1 j (ha j hj) hl
    | true => exact h2 j ⟨ha j hj, fun i hi _ => hno i hi⟩ hl
  intro fuel
  induction fuel with
  | zero =>
    intro listed vals w hs hc hdn hnz h1 h2 h3 hG
    have ha : ∀ j, j < ops.size → listed.getD j false = true := fun j hj => by
      have := List.countP_eq_zero.1 (Nat.le_zero.1 hc) j (by simpa using hj)
      simpa using this
    exact ⟨hdone listed hs ha, hfin listed vals w hs hnz h1 h2 hG ha⟩
  | succ fuel ih =>
    intro listed vals w hs hc hdn hnz h1 h2 h3 hG
    refine ⟨fun hnil => hfin listed vals w hs hnz h1 h2 hG (hall listed hs hnil), fun i hi => ?_⟩
    obtain ⟨h0, o, ho, haft⟩ := mem_ready.1 hi
    have hlt : i < ops.size := (Array.getElem?_eq_some_iff.1 ho).1
    have hl : i < listed.size := by omega
    have h0' : listed.getD i false = false := by simp [hl] at h0 ⊢; exact h0
    have hset : ∀ j, (listed.setIfInBounds i true).getD j false = if j = i then true else listed.getD j false := fun j => by
      by_cases hji : j = i
      · subst hji; simp [hl]
      · rw [getD_set_ne false (Ne.symm hji), if_neg hji]
    have hlive : ∀ x ∈ (info i).deps, Live info ops.size listed x := fun x hx => by
      obtain ⟨e, he, hb, rfl⟩ := hdeps i o ho x hx
      refine ⟨haft e he hb, fun k hk hlk hc => ?_⟩
      have := huse i k _ hlt hk hx hc
      subst this
      rw [h0'] at hlk
      cases hlk
    refine wpOp_mono ?_ ((hop i o ho).2 vals w hG (fun x hx => ?_))
    · rintro a' w' ⟨v, rfl, hv, hR, hft, hG'⟩
      have e : (fr vals).put o.dst v = fr (upd vals i v) := by
        rw [hfr, hfr]
        have := fillL_upd vals v ops.toList 0 i o a0 hap (by simpa using ho)
        rw [← this, Nat.zero_add]
      rw [e]
      by_cases hiz : i = z
      · subst hiz
        have ha : ∀ j, j < ops.size → (listed.setIfInBounds i true).getD j false = true := fun j hj => by
          rw [hset]
          by_cases q : j = i
          · rw [if_pos q]
          · rw [if_neg q]; exact hready listed hs hdn hlt hi j hj q
        have hq : Q .normal (fr (upd vals i v)) w' := by
          refine hend _ w' (fun q => by omega) (fun j hj hji hlj => ?_) (fun _ => by rw [show upd vals i v i = v from if_pos rfl]; exact hv) (fun q => by omega)
          rw [show upd vals i v j = vals j from if_neg hji]
          have h4 := ha j hj
          rw [hset, if_neg hji] at h4
          obtain ⟨oj, hoj⟩ : ∃ oj, ops[j]? = some oj := ⟨_, Array.getElem?_eq_getElem hj⟩
          rcases (hop j oj hoj).1 with q | q
          · exact absurd q hji
          · unfold Firm at q
            rw [hlj] at q
            exact q _ _ _ (h1 j h4 hlj)
        have hnil := hdone (listed.setIfInBounds i true) (by simpa using hs) ha
        cases fuel with
        | zero => exact ⟨hnil, hq⟩
        | succ fuel => exact ⟨fun _ => hq, fun k hk => by rw [hnil] at hk; cases hk⟩
      · have hR' := hR.resolve_left hiz
        have hft' := hft.resolve_left hiz
        have hFi := (hop i o ho).1.resolve_left hiz
        have hF : ∀ j, listed.getD j false = true → Firm (info j).lin (I j) := fun j hj => by
          have hjl : j < listed.size := by
            rcases Nat.lt_or_ge j listed.size with q | q
            · exact q
            · simp [Array.getElem?_eq_none q] at hj
          obtain ⟨oj, hoj⟩ : ∃ oj, ops[j]? = some oj := ⟨_, Array.getElem?_eq_getElem (by omega)⟩
          refine (hop j oj hoj).1.resolve_left ?_
          rintro rfl
          rw [hj] at hnz
          cases hnz
        have hold : ∀ j, j ≠ i → Live info ops.size (listed.setIfInBounds i true) j → Live info ops.size listed j ∧ j ∉ (info i).con := fun j hji hlv => by
          have q := hlv.1
          rw [hset, if_neg hji] at q
          exact ⟨⟨q, fun k hk hlk => hlv.2 k hk (by rw [hset]; split; rfl; exact hlk)⟩, hlv.2 i hlt (by rw [hset, if_pos rfl])⟩
        have hdis : ∀ j, Live info ops.size listed j → (info j).lin = true → j ∉ (info i).con → ∀ b ∈ foot (vals j), b ∉ foots vals (info i).con := fun j hlj hlin hnc b hb hbx => by
          obtain ⟨x, hx, hbx⟩ := mem_foots.1 hbx
          have := hcon i hlt x hx
          exact h3 j x (fun q => hnc (by rw [q]; exact hx)) hlj (hlive x this.1) hlin this.2 b hb hbx
        have hlow : ∀ j, Live info ops.size listed j → (info j).lin = true → ∀ b ∈ foot (vals j), b < w.heap.size := fun j hlj hlin => by
          have q := hF j hlj.1
          unfold Firm at q
          rw [if_pos hlin] at q
          exact q.2 _ _ (h2 j hlj hlin)
        refine ih _ _ _ (by simpa using hs) ?_ (fun j oj hj hlj e he hb => ?_) ?_ (fun j hj hlin => ?_) (fun j hj hlin => ?_) (fun j k hjk hj hk hlj hlk b hb hbk => ?_) (hG'.resolve_left hiz)
        · have := countP_less (fun j => !listed.getD j false) (fun j => !(listed.setIfInBounds i true).getD j false) i (by simp only [h0']; rfl) (by simp only [hset]; simp) (fun k hk => by simp only [hset, if_neg hk]) ops.size hlt
          omega
        · rw [hset] at hlj ⊢
          by_cases he1 : e.on = i
          · rw [if_pos he1]
          · rw [if_neg he1]
            by_cases hji : j = i
            · subst hji
              rw [ho] at hj
              cases hj
              exact haft _ he hb
            · rw [if_neg hji] at hlj
              exact hdn j oj hj hlj e he hb
        · rw [hset, if_neg (Ne.symm hiz)]; exact hnz
        · by_cases hji : j = i
          · subst hji
            rw [show upd vals j v j = v from if_pos rfl]
            exact hv
          · rw [hset, if_neg hji] at hj
            rw [show upd vals i v j = vals j from if_neg hji]
            have q := hF j hj
            unfold Firm at q
            rw [hlin] at q
            exact q _ _ _ (h1 j hj hlin)
        · by_cases hji : j = i
          · subst hji
            rw [show upd vals j v j = v from if_pos rfl]
            exact hv
          · obtain ⟨hlj, hnc⟩ := hold j hji hj
            rw [show upd vals i v j = vals j from if_neg hji]
            have q := hF j hlj.1
            unfold Firm at q
            rw [if_pos hlin] at q
            exact q.1 _ _ _ _ hR' (hdis j hlj hlin hnc) (h2 j hlj hlin)
        · by_cases hji : j = i
          · subst hji
            rw [show upd vals j v j = v from if_pos rfl] at hb
            rw [show upd vals j v k = vals k from if_neg (Ne.symm hjk)] at hbk
            obtain ⟨hlk', hnc⟩ := hold k (Ne.symm hjk) hk
            rcases hft' with q | q
            · rw [hlj] at q; cases q
            · rcases q b hb with q | q
              · exact hdis k hlk' hlk hnc b hbk q
              · have := hlow k hlk' hlk b hbk; omega
          · obtain ⟨hlj', hnc⟩ := hold j hji hj
            rw [show upd vals i v j = vals j from if_neg hji] at hb
            by_cases hki : k = i
            · subst hki
              rw [show upd vals k v k = v from if_pos rfl] at hbk
              rcases hft' with q | q
              · rw [hlk] at q; cases q
              · rcases q b hbk with q | q
                · exact hdis j hlj' hlj hnc b hb q
                · have := hlow j hlj' hlj b hb; omega
            · obtain ⟨hlk', -⟩ := hold k hki hk
              rw [show upd vals i v k = vals k from if_neg hki] at hbk
              exact h3 j k hjk hlj' hlk' hlj hlk b hb hbk
    · cases hlin : (info x).lin with
      | false => exact h1 x (hlive x hx).1 hlin
      | true => exact h2 x (hlive x hx) hlin

def afters (md : Region.Mode) (ops : Array Oper) (j : Nat) : List Nat := match ops[j]? with | none => [] | some o => (o.after.toList.filter (Region.binds md ·)).map (·.on)

def reach (md : Region.Mode) (ops : Array Oper) : Nat → List Nat → List Nat
  | 0, l => l
  | k + 1, l => reach md ops k (if l.contains k then l ++ afters md ops k else l)

theorem mem_afters {j x : Nat} : x ∈ afters md ops j ↔ ∃ o, ops[j]? = some o ∧ ∃ e ∈ o.after, Region.binds md e = true ∧ e.on = x := by
  unfold afters
  cases ho : ops[j]? with
  | none => simp
  | some o => simp [and_assoc]

theorem reach_sound {listed : Array Bool} (hdn : ∀ j oj, ops[j]? = some oj → listed.getD j false = true → ∀ e ∈ oj.after, Region.binds md e = true → listed.getD e.on false = true) :
    ∀ (k : Nat) (l : List Nat), (∀ x ∈ l, listed.getD x false = true) → ∀ x ∈ reach md ops k l, listed.getD x false = true
  | 0, _, h => h
  | k + 1, l, h => by
    unfold reach
    refine reach_sound hdn k _ ?_
    split
    · rename_i hc
      intro x hx
      rcases List.mem_append.1 hx with q | q
      · exact h x q
      · obtain ⟨o, ho, e, he, hb, rfl⟩ := mem_afters.1 q
        exact hdn k o ho (h k (by simpa using hc)) e he hb
    · exact h


def linChk (md : Region.Mode) (ops : Array Oper) (infos : List Info) (z : Nat) (fin : List Nat) : Bool :=
  let inf := fun i => infos.getD i ⟨[], [], false⟩
  let n := ops.size
  apart ops.toList && infos.length == n && ((List.range n).all fun i => (afters md ops i).all fun x => decide (x < i)) &&
  ((List.range n).all fun i => (inf i).deps.all fun x => (afters md ops i).contains x) &&
  ((List.range n).all fun i => (inf i).con.all fun x => (inf i).deps.contains x && (inf x).lin) &&
  ((List.range n).all fun i => (List.range n).all fun k => (inf i).deps.all fun x => !(inf k).con.contains x || i == k) &&
  (decide (n ≤ z) || (List.range n).all fun j => j == z || (reach md ops n (afters md ops z)).contains j) &&
  (fin.all fun x => decide (x < n) && (x == z || !(inf x).lin || (decide (n ≤ z) && (List.range n).all fun i => !(inf i).con.contains x)))

/-- THE BEGINNING: infos: what each operation leans on (operations ahead of it), whose rows it takes over, whether it makes rows; z: the operation that all others precede (its fact need not stand behind anything), or the number of operations; fin: the operations whose facts are wanted at the end; G: what is known of the world all the while. -/
theorem wp_region_lin {id : Nat} {a : Act} {w : World} (infos : List Info) (z : Nat) (fin : List Nat) (G : World → Prop) (hm : P.follows .mixedOrders = true)
    (hc : linChk .any ops infos z fin = true) (hG : G w.drew)
    (h' : ∀ fr : (Nat → Value) → Act, (∀ vals, fillL vals 0 ops.toList a = fr vals) → Mono P ops Q G fr z fin [] 0 (ops.toList.zip infos)) : (Code.region id ops true).wp P Q a w := by
  obtain ⟨fr, hfr⟩ : ∃ fr : (Nat → Value) → Act, ∀ vals, fillL vals 0 ops.toList a = fr vals := ⟨_, fun _ => rfl⟩
  have h := h' fr hfr
  unfold linChk at hc
  simp only [Bool.and_eq_true, Bool.or_eq_true, decide_eq_true_eq, beq_iff_eq, List.all_eq_true, List.mem_range, Bool.not_eq_true', List.contains_eq_mem, decide_eq_false_iff_not] at hc
  obtain ⟨⟨⟨⟨⟨⟨⟨hap, hlen⟩, hacy⟩, hdep⟩, hcon⟩, huse⟩, hz⟩, hfin⟩ := hc
  have hzip : ∀ k o, ops[k]? = some o → (ops.toList.zip infos)[k]? = some (o, infos.getD k ⟨[], [], false⟩) := fun k o ho => by
    have hk : k < ops.size := (Array.getElem?_eq_some_iff.1 ho).1
    rw [List.getElem?_zip_eq_some]
    refine ⟨by simpa using ho, ?_⟩
    simp [List.getD, show k < infos.length by omega]
  have hzip' : ∀ k o d, (ops.toList.zip infos)[k]? = some (o, d) → ops[k]? = some o ∧ infos.getD k ⟨[], [], false⟩ = d := fun k o d hk => by
    rw [List.getElem?_zip_eq_some] at hk
    exact ⟨by simpa using hk.1, by simp [List.getD, hk.2]⟩
  have hafter : ∀ j oj, ops[j]? = some oj → ∀ e ∈ oj.after, Region.binds .any e = true → e.on < j := fun j oj hj e he hb =>
    hacy j (Array.getElem?_eq_some_iff.1 hj).1 e.on (mem_afters.2 ⟨oj, hj, e, he, hb, rfl⟩)
  have hdeps : ∀ j oj, ops[j]? = some oj → ∀ x ∈ (infos.getD j ⟨[], [], false⟩).deps, ∃ e ∈ oj.after, Region.binds .any e = true ∧ e.on = x := fun j oj hj x hx => by
    obtain ⟨o, ho, q⟩ := mem_afters.1 (hdep j (Array.getElem?_eq_some_iff.1 hj).1 x hx)
    rw [hj] at ho
    cases ho
    exact q
  obtain ⟨L, hL, -, hO, hE⟩ := mono_out _ 0 [] rfl h (fun k o d hk x hx => by
    obtain ⟨h1, rfl⟩ := hzip' k o d hk
    obtain ⟨e, he, hb, rfl⟩ := hdeps k o h1 x hx
    have := hafter k o h1 e he hb
    omega)
  refine wp_region_any hm ?_
  have hstart := wpAny_mono (P := P) (Q := Q) (md := .any) (a0 := a) (info := fun j => infos.getD j ⟨[], [], false⟩) (I := fun j => L.getD j (fun _ _ => True)) (G := G) (fr := fr) (z := z) (fun vals => (hfr vals).symm) hap hafter hdeps
    (fun i hi x hx => by simpa using hcon i hi x hx)
    (fun i k x hi hk hx hxk => by
      rcases huse i hi k hk x hx with q | q
      · exact absurd hxk (by simpa using q)
      · exact q)
    (fun listed hs hdn hzn hzr j hj hjz => by
      obtain ⟨-, o, ho, haft⟩ := mem_ready.1 hzr
      rcases hz with q | q
      · omega
      · rcases q j hj with q | q
        · exact absurd q hjz
        · refine reach_sound hdn ops.size _ (fun x hx => ?_) j q
          obtain ⟨o', ho', e, he, hb, rfl⟩ := mem_afters.1 hx
          rw [ho] at ho'
          cases ho'
          exact haft e he hb)
    (fun i o ho => by
      have := hO i o _ (hzip i o ho)
      rw [Nat.zero_add] at this
      exact ⟨this.1, fun vals w hG hF => this.2 vals w hG (facts_of hF)⟩)
    (fun vals w hG h1 h2 h3 => hE vals w hG (facts_of fun x hx => by
      obtain ⟨hxn, q⟩ := hfin x hx
      rcases q with (q | q) | q
      · subst q; exact h2 hxn
      · by_cases hxz : x = z
        · subst hxz; exact h2 hxn
        · exact h1 x hxn hxz q
      · exact h3 q.1 x hxn (fun i hi => by simpa using q.2 i hi)))
  have e0 : a = fr (fun k => match ops.toList[k]? with | some o => held a o | none => undef) := by
    rw [← hfr]
    refine (fillL_own _ a ops.toList 0 fun k o hk => ?_).symm
    simp only [Nat.zero_add, hk]
  have hno : ∀ j, (Array.replicate ops.size false).getD j false = false := fun j => by
    rcases Nat.lt_or_ge j (Array.replicate ops.size false).size with q | q
    · simp only [Array.size_replicate] at q
      simp [q]
    · simp [Array.getElem?_eq_none q]
  have hnl : ∀ j, ¬ Live (fun j => infos.getD j ⟨[], [], false⟩) ops.size (Array.replicate ops.size false) j := fun j hj => by
    have := hj.1
    rw [hno] at this
    cases this
  have := hstart ops.size (Array.replicate ops.size false) (fun k => match ops.toList[k]? with | some o => held a o | none => undef) w.drew (by simp) (Nat.le_trans (List.countP_le_length) (by simp))
    (fun j _ _ hj => by rw [hno] at hj; cases hj) (hno z) (fun j hj => by rw [hno] at hj; cases hj) (fun j hj => absurd hj (hnl j)) (fun j k _ hj => absurd hj (hnl j)) hG
  rw [← e0] at this
  exact this

/-- An operation that reads: it yields c. -/
theorem lin_read {i : Nat} {rest : List (Oper × Info)} {L : List (Value → World → Prop)} {o : Oper} {d : Info} {c : Value} (ho : ops[i]? = some o) (hd : d.lin = false ∧ d.con = [])
    (h : ∀ vals w, G w → Facts L vals w d.deps → Region.wanted o (yielded ops (fr vals).tmps) = true ∧ (execOp (fr vals).eval o).run P w = .ok (.value c) w)
    (hn : Mono P ops Q G fr z fin (L ++ [fun v _ => v = c]) (i + 1) rest) : Mono P ops Q G fr z fin L i ((o, d) :: rest) := by
  refine ⟨fun v _ => v = c, ⟨Or.inr (by unfold Firm; rw [hd.1]; exact fun _ _ _ q => q), fun vals w hG hF => ?_⟩, hn⟩
  obtain ⟨h1, h2⟩ := h vals w hG hF
  unfold wpOp
  simp only [ho, h1, if_true, Oper.wp, h2, Oper.upon]
  exact .inl ⟨c, rfl, rfl, Or.inr (by rw [hd.2]; exact Chg.refl _ _), Or.inr (Or.inl hd.1), Or.inr hG⟩

/-- An operation that its guard passes over. -/
theorem lin_off {i : Nat} {rest : List (Oper × Info)} {L : List (Value → World → Prop)} {o : Oper} {d : Info} (ho : ops[i]? = some o) (hd : d.lin = false ∧ d.con = [])
    (h : ∀ vals w, G w → Facts L vals w d.deps → Region.wanted o (yielded ops (fr vals).tmps) = false)
    (hn : Mono P ops Q G fr z fin (L ++ [fun v _ => v = undef]) (i + 1) rest) : Mono P ops Q G fr z fin L i ((o, d) :: rest) := by
  refine ⟨fun v _ => v = undef, ⟨Or.inr (by unfold Firm; rw [hd.1]; exact fun _ _ _ q => q), fun vals w hG hF => ?_⟩, hn⟩
  unfold wpOp
  simp only [ho, h vals w hG hF]
  exact ⟨undef, rfl, rfl, Or.inr (by rw [hd.2]; exact Chg.refl _ _), Or.inr (Or.inl hd.1), Or.inr hG⟩

/-- Another operation: p: what it yields. -/
theorem lin_op {i : Nat} {rest : List (Oper × Info)} {L : List (Value → World → Prop)} {o : Oper} {d : Info} (p : Value → World → Prop) (ho : ops[i]? = some o) (hp : i = z ∨ Firm d.lin p)
    (h : ∀ vals w, G w → Facts L vals w d.deps → Region.wanted o (yielded ops (fr vals).tmps) = true ∧
      ∀ K : Act → World → Prop, Shut (∀ v w', p v w' → (i = z ∨ Chg (foots vals d.con) w w') → (i = z ∨ d.lin = false ∨ ∀ b ∈ foot v, b ∈ foots vals d.con ∨ w.heap.size ≤ b) → (i = z ∨ G w') → K ((fr vals).put o.dst v) w') → o.wp P (fr vals) w K Q)
    (hn : Mono P ops Q G fr z fin (L ++ [p]) (i + 1) rest) : Mono P ops Q G fr z fin L i ((o, d) :: rest) := by
  refine ⟨p, ⟨hp, fun vals w hG hF => ?_⟩, hn⟩
  obtain ⟨h1, h2⟩ := h vals w hG hF
  unfold wpOp
  simp only [ho, h1, if_true]
  exact .inl (h2 _ (fun v w' a b c e => ⟨v, rfl, a, b, c, e⟩))

theorem lin_nil {i : Nat} {L : List (Value → World → Prop)} (h : ∀ vals w, (ops.size ≤ z → G w) → Facts L vals w fin → Q .normal (fr vals) w) : Mono P ops Q G fr z fin L i [] := h
end

end Go.Proofs.Ytpbljifejopecaa
/- A region that draws its order, walked in one order: reads are taken where they stand if their values hold in every world that the region may come to; what writes comes up alone. No program here. -/
namespace Go.Proofs.Ytpbljifejopecaa
open Go

section
variable {P : Program} {ops : Array Oper} {Q : Exit → Act → World → Prop} {md : Region.Mode} {S : World → Prop} {N : Nat → Bool} {R : List Nat}

/-- Whatever order is picked from here on; S holds behind each operation of which N says that it must. -/
def wpAnyN (P : Program) (md : Region.Mode) (ops : Array Oper) (Q : Exit → Act → World → Prop) (S : World → Prop) (N : Nat → Bool) : Nat → Array Bool → Act → World → Prop
  | 0, listed, a, w => Region.ready md ops listed = [] ∧ Q .normal a w
  | fuel + 1, listed, a, w =>
    (Region.ready md ops listed = [] → Q .normal a w) ∧
    ∀ i ∈ Region.ready md ops listed, wpOp P ops Q i (fun a' w' => (N i = true → S w') ∧ wpAnyN P md ops Q S N fuel (listed.setIfInBounds i true) a' w') a w

theorem wpAnyN_any : ∀ (fuel : Nat) (listed : Array Bool) (a : Act) (w : World), wpAnyN P md ops Q S N fuel listed a w → wpAny P md ops Q fuel listed a w
  | 0, _, _, _, h => h
  | fuel + 1, _, _, _, h => ⟨h.1, fun i hi => wpOp_mono (fun a' w' h' => wpAnyN_any fuel _ a' w' h'.2) (h.2 i hi)⟩

/-- What is listed is closed downward. -/
def Down (md : Region.Mode) (ops : Array Oper) (listed : Array Bool) : Prop := ∀ j oj, ops[j]? = some oj → listed.getD j false = true → ∀ e ∈ oj.after, Region.binds md e = true → listed.getD e.on false = true

theorem down_set {listed : Array Bool} {j : Nat} (hd : Down md ops listed) (hj : j ∈ Region.ready md ops listed) : Down md ops (listed.setIfInBounds j true) := by
  intro k ok hk hlk e he hb
  obtain ⟨-, oj, hoj, hall⟩ := mem_ready.1 hj
  by_cases hkj : k = j
  · subst hkj
    rw [hoj] at hk
    cases hk
    exact getD_set_true (hall e he hb)
  · rw [getD_set_ne false (Ne.symm hkj)] at hlk
    exact getD_set_true (hd k ok hk hlk e he hb)

theorem not_reach {listed : Array Bool} {i j : Nat} (hd : Down md ops listed) (hj : j ∈ Region.ready md ops listed) (hi : listed.getD i false = false) : i ∉ reach md ops ops.size (afters md ops j) := by
  intro h
  obtain ⟨-, oj, hoj, hall⟩ := mem_ready.1 hj
  have := reach_sound hd ops.size (afters md ops j) (fun x hx => by
    obtain ⟨o, ho, e, he, hb, rfl⟩ := mem_afters.1 hx
    rw [hoj] at ho
    cases ho
    exact hall e he hb) i h
  rw [hi] at this
  cases this

theorem unlisted {listed : Array Bool} {i : Nat} (hr : i ∈ Region.ready md ops listed) : listed.getD i false = false := by
  have h0 := (mem_ready.1 hr).1
  rcases Nat.lt_or_ge i listed.size with q | q
  · simp [q] at h0 ⊢; exact h0
  · simp [Array.getElem?_eq_none q] at h0

theorem wpAnyN_first {i : Nat} {oi : Oper} {v : Value} (hi : ops[i]? = some oi) (hsel : ∀ (j : Nat) (o : Oper) cs b, ops[j]? = some o → o.op ≠ .select cs b)
    (hQ : ∀ c a w, Q (.panic c) (a.put oi.dst v) w → Q (.panic c) a w)
    (hN : ∀ j, j ≠ i → i ∉ reach md ops ops.size (afters md ops j) → N j = true) :
    ∀ (fuel : Nat) (listed : Array Bool) (a : Act) (w : World), Down md ops listed →
      (∀ j oj, ops[j]? = some oj → j ≠ i → listed.getD j true = false → (∀ e ∈ oj.after, Region.binds md e = true → e.on ≠ i) → oi.apart ops oj = true) →
      i ∈ Region.ready md ops listed → YieldsIf P ops S oi v a → S w →
      wpAnyN P md ops Q S N fuel (listed.setIfInBounds i true) (a.put oi.dst v) w → wpAnyN P md ops Q S N (fuel + 1) listed a w := by
  intro fuel
  induction fuel with
  | zero =>
    intro listed a w _ _ hr hy hS H
    refine ⟨fun h => (by rw [h] at hr; cases hr), fun j hj => ?_⟩
    by_cases hji : j = i
    · subst hji; exact hy.wpOp hi hS ⟨fun _ => hS, H⟩
    · have := ready_mono hj hji
      rw [H.1] at this
      cases this
  | succ fuel ih =>
    intro listed a w hdn hfree hr hy hS H
    refine ⟨fun h => (by rw [h] at hr; cases hr), fun j hj => ?_⟩
    by_cases hji : j = i
    · subst hji; exact hy.wpOp hi hS ⟨fun _ => hS, H⟩
    · obtain ⟨hjun, oj, hoj, hall⟩ := mem_ready.1 hj
      have hnot : ∀ e ∈ oj.after, Region.binds md e = true → e.on ≠ i := fun e he hb heq => by
        have h1 := hall e he hb
        have h0 := (mem_ready.1 hr).1
        rw [heq] at h1
        rcases Nat.lt_or_ge i listed.size with h' | h'
        · simp [h'] at h0 h1; rw [h0] at h1; cases h1
        · simp [Array.getElem?_eq_none h'] at h1
      have hNj := hN j hji (not_reach hdn hj (unlisted hr))
      have h2 := wpOp_putIf hoj (hfree j oj hoj hji hjun hnot) (fun cs b => hsel i oi cs b hi) (fun cs b => hsel j oj cs b hoj) hQ hy (H.2 j (ready_mono hj hji))
      refine wpOp_mono (fun a' w' h3 => ⟨fun _ => h3.2.1 hNj, ih (listed.setIfInBounds j true) a' w' (down_set hdn hj) (fun k ok hk hki hun hno => ?_) (ready_mono hr (Ne.symm hji)) h3.1 (h3.2.1 hNj) ?_⟩) h2
      · refine hfree k ok hk hki ?_ hno
        by_cases hjk : j = k
        · subst hjk; exact hjun
        · rw [getD_set_ne true hjk] at hun; exact hun
      · rw [Array.setIfInBounds_comm _ _ hji]
        exact h3.2.2

/-- Some read may still come behind operation j. -/
def needs (md : Region.Mode) (ops : Array Oper) (R : List Nat) (j : Nat) : Bool :=
  R.any fun i => i != j && !(reach md ops ops.size (afters md ops j)).contains i

theorem needs_of {i j : Nat} (hi : i ∈ R) (hne : j ≠ i) (hno : i ∉ reach md ops ops.size (afters md ops j)) : needs md ops R j = true := by
  refine List.any_eq_true.2 ⟨i, hi, ?_⟩
  simp only [Bool.and_eq_true, bne_iff_ne, ne_eq, Bool.not_eq_true', List.contains_eq_mem, decide_eq_false_iff_not]
  exact ⟨Ne.symm hne, hno⟩

/-- Each read may come up where it stands, and nobody meddles with it; each other operation comes up alone. -/
def seqChk (md : Region.Mode) (ops : Array Oper) (R : List Nat) : List Nat → Array Bool → Bool
  | [], listed => (Region.ready md ops listed).isEmpty
  | i :: rest, listed => (if R.contains i then (Region.ready md ops listed).contains i && Region.free md ops listed i else Region.ready md ops listed == [i]) && seqChk md ops R rest (listed.setIfInBounds i true)

/-- The operations in this order, each with its number. -/
def pick (ops : Array Oper) (order : List Nat) : List (Nat × Oper) := order.filterMap fun i => (ops[i]?).map fun o => (i, o)

/-- The region in this one order. -/
def SeqN (P : Program) (md : Region.Mode) (ops : Array Oper) (Q : Exit → Act → World → Prop) (S : World → Prop) (R : List Nat) : List (Nat × Oper) → Act → World → Prop
  | [], a, w => Q .normal a w
  | (i, o) :: rest, a, w =>
    if R.contains i then ∃ v, YieldsIf P ops S o v a ∧ S w ∧ (∀ c a w, Q (.panic c) (a.put o.dst v) w → Q (.panic c) a w) ∧ SeqN P md ops Q S R rest (a.put o.dst v) w
    else wpOp P ops Q i (fun a' w' => (needs md ops R i = true → S w') ∧ SeqN P md ops Q S R rest a' w') a w

theorem pick_cons {i : Nat} {rest : List Nat} (h : i < ops.size) : pick ops (i :: rest) = (i, ops[i]) :: pick ops rest := by simp [pick, h]

theorem seqN_sound (hs : Region.noSelect ops = true) : ∀ (todo : List Nat) (listed : Array Bool) (a : Act) (w : World) (fuel : Nat), todo.length ≤ fuel → (∀ i ∈ todo, i < ops.size) → seqChk md ops R todo listed = true → Down md ops listed →
    SeqN P md ops Q S R (pick ops todo) a w → wpAnyN P md ops Q S (needs md ops R) fuel listed a w
  | [], _, _, _, 0, _, _, hc, _, h => ⟨by simpa [seqChk] using hc, h⟩
  | [], _, _, _, n + 1, _, _, hc, _, h => ⟨fun _ => h, by rw [show Region.ready md ops _ = [] by simpa [seqChk] using hc]; simp⟩
  | i :: rest, listed, a, w, 0, hl, _, _, _, _ => by simp at hl
  | i :: rest, listed, a, w, fuel + 1, hl, hlt, hc, hdn, h => by
    simp only [List.length_cons, Nat.add_le_add_iff_right] at hl
    have hi : i < ops.size := hlt i (by simp)
    have hlt' : ∀ j ∈ rest, j < ops.size := fun j hj => hlt j (by simp [hj])
    have ho : ops[i]? = some ops[i] := Array.getElem?_eq_getElem hi
    unfold seqChk at hc
    rw [Bool.and_eq_true] at hc
    rw [pick_cons hi] at h
    unfold SeqN at h
    by_cases hR : R.contains i = true
    · rw [if_pos hR] at h
      rw [if_pos hR, Bool.and_eq_true] at hc
      obtain ⟨v, hy, hS, hQ, h⟩ := h
      exact wpAnyN_first ho (Region.noSelect_spec hs) hQ (fun j hne hno => needs_of (by simpa using hR) hne hno) fuel listed a w hdn (Region.free_spec ho hc.1.2) (by simpa using hc.1.1) hy hS
        (seqN_sound hs rest _ _ _ fuel hl hlt' hc.2 (down_set hdn (by simpa using hc.1.1)) h)
    · rw [if_neg hR] at h hc
      have hr : Region.ready md ops listed = [i] := by simpa using hc.1
      refine ⟨fun h0 => (by rw [hr] at h0; cases h0), fun j hj => ?_⟩
      rw [hr] at hj
      obtain rfl : j = i := by simpa using hj
      exact wpOp_mono (fun a' w' h' => ⟨h'.1, seqN_sound hs rest _ a' w' fuel hl hlt' hc.2 (down_set hdn (by rw [hr]; simp)) h'.2⟩) h

/-- THE BEGINNING. -/
theorem wp_region_seq {id : Nat} {a : Act} {w : World} (S : World → Prop) (R todo : List Nat) (hm : P.follows .mixedOrders = true)
    (hc : (Region.noSelect ops && decide (todo.length ≤ ops.size) && todo.all (fun i => decide (i < ops.size)) && seqChk .any ops R todo (Array.replicate ops.size false)) = true)
    (h : SeqN P .any ops Q S R (pick ops todo) a w.drew) : (Code.region id ops true).wp P Q a w := by
  simp only [Bool.and_eq_true, decide_eq_true_eq, List.all_eq_true] at hc
  exact wp_region_any hm (wpAnyN_any _ _ _ _ (seqN_sound hc.1.1.1 todo _ a _ _ hc.1.1.2 hc.1.2 hc.2 (fun j _ _ hj => by simp [Array.getElem?_replicate] at hj; split at hj <;> simp_all) h))

/-- A read. -/
theorem seqN_read {i : Nat} {rest : List (Nat × Oper)} {a : Act} {w : World} {o : Oper} {v : Value} (hR : R.contains i = true) (hw : Region.wanted o (yielded ops a.tmps) = true)
    (hQ : ∀ c a w, Q (.panic c) (a.put o.dst v) w → Q (.panic c) a w) (hS : S w) (hv : ∀ w, S w → (execOp a.eval o).run P w = .ok (.value v) w) (h : SeqN P md ops Q S R rest (a.put o.dst v) w) : SeqN P md ops Q S R ((i, o) :: rest) a w := by
  unfold SeqN
  rw [if_pos hR]
  exact ⟨v, Or.inl ⟨hw, hv⟩, hS, hQ, h⟩

/-- A read that its guard passes over. -/
theorem seqN_off {i : Nat} {rest : List (Nat × Oper)} {a : Act} {w : World} {o : Oper} (hR : R.contains i = true) (hw : Region.wanted o (yielded ops a.tmps) = false)
    (hQ : ∀ c a w, Q (.panic c) (a.put o.dst undef) w → Q (.panic c) a w) (hS : S w) (h : SeqN P md ops Q S R rest (a.put o.dst undef) w) : SeqN P md ops Q S R ((i, o) :: rest) a w := by
  unfold SeqN
  rw [if_pos hR]
  exact ⟨undef, Or.inr ⟨hw, rfl⟩, hS, hQ, h⟩

/-- Another operation that its guard passes over. -/
theorem seqN_skip {i : Nat} {rest : List (Nat × Oper)} {a : Act} {w : World} {o : Oper} (hR : R.contains i = false) (ho : ops[i]? = some o) (hw : Region.wanted o (yielded ops a.tmps) = false)
    (hS : S w) (h : SeqN P md ops Q S R rest (a.put o.dst undef) w) : SeqN P md ops Q S R ((i, o) :: rest) a w := by
  unfold SeqN
  rw [if_neg (by simp only [hR]; decide)]
  unfold wpOp
  simp only [ho, hw]
  exact ⟨fun _ => hS, h⟩

/-- Another operation: the way back into the region stands behind K. -/
theorem seqN_op {i : Nat} {rest : List (Nat × Oper)} {a : Act} {w : World} {o : Oper} (hR : R.contains i = false) (ho : ops[i]? = some o) (hw : Region.wanted o (yielded ops a.tmps) = true)
    (h : ∀ K : Act → World → Prop, Shut (∀ a w, (needs md ops R i = true → S w) → SeqN P md ops Q S R rest a w → K a w) → Oper.wp P o a w K Q) : SeqN P md ops Q S R ((i, o) :: rest) a w := by
  unfold SeqN
  rw [if_neg (by simp only [hR]; decide)]
  unfold wpOp
  simp only [ho, hw, if_true]
  exact Or.inl (h _ (fun a w hS hr => ⟨hS, hr⟩))

theorem seqN_nil {a : Act} {w : World} (h : Q .normal a w) : SeqN P md ops Q S R [] a w := h
end

end Go.Proofs.Ytpbljifejopecaa
/- A region that draws its order, walked as a tree: reads are taken where they stand if their values hold in every world that the region may come to; of what writes, at most two come up beside each other, and both ways are walked. No program here. -/
namespace Go.Proofs.Ytpbljifejopecaa
open Go

/-- The orders to walk. -/
inductive Way where
  | done : Way
  | then_ : Nat → Way → Way
  | fork : Nat → Nat → Way → Way → Way

def Way.size : Way → Nat
  | done => 0
  | then_ _ r => r.size + 1
  | fork _ _ r s => max r.size s.size + 1

/-- A line of operations ahead of a way. -/
def Way.line : List Nat → Way → Way
  | [], r => r
  | i :: l, r => .then_ i (Way.line l r)

section
variable {P : Program} {ops : Array Oper} {Q : Exit → Act → World → Prop} {md : Region.Mode} {S : World → Prop} {R : List Nat}

def Way.inside (n : Nat) : Way → Bool
  | done => true
  | then_ i r => decide (i < n) && r.inside n
  | fork i j r s => decide (i < n) && decide (j < n) && r.inside n && s.inside n

def wayChk (md : Region.Mode) (ops : Array Oper) (R : List Nat) : Way → Array Bool → Bool
  | .done, listed => (Region.ready md ops listed).isEmpty
  | .then_ i r, listed => (if R.contains i then (Region.ready md ops listed).contains i && Region.free md ops listed i else Region.ready md ops listed == [i]) && wayChk md ops R r (listed.setIfInBounds i true)
  | .fork i j r s, listed => !R.contains i && !R.contains j && Region.ready md ops listed == [i, j] && wayChk md ops R r (listed.setIfInBounds i true) && wayChk md ops R s (listed.setIfInBounds j true)

/-- The region along a way. -/
def Along (P : Program) (md : Region.Mode) (ops : Array Oper) (Q : Exit → Act → World → Prop) (S : World → Prop) (R : List Nat) : Way → Act → World → Prop
  | .done, a, w => Q .normal a w
  | .then_ i r, a, w =>
    if R.contains i then ∃ o, ops[i]? = some o ∧ ∃ v, YieldsIf P ops S o v a ∧ S w ∧ (∀ c a w, Q (.panic c) (a.put o.dst v) w → Q (.panic c) a w) ∧ Along P md ops Q S R r (a.put o.dst v) w
    else wpOp P ops Q i (fun a' w' => (needs md ops R i = true → S w') ∧ Along P md ops Q S R r a' w') a w
  | .fork i j r s, a, w =>
    wpOp P ops Q i (fun a' w' => (needs md ops R i = true → S w') ∧ Along P md ops Q S R r a' w') a w ∧
    wpOp P ops Q j (fun a' w' => (needs md ops R j = true → S w') ∧ Along P md ops Q S R s a' w') a w

theorem along_sound (hs : Region.noSelect ops = true) : ∀ (way : Way) (listed : Array Bool) (a : Act) (w : World) (fuel : Nat), way.size ≤ fuel → way.inside ops.size = true → wayChk md ops R way listed = true → Down md ops listed →
    Along P md ops Q S R way a w → wpAnyN P md ops Q S (needs md ops R) fuel listed a w
  | .done, _, _, _, 0, _, _, hc, _, h => ⟨by simpa [wayChk] using hc, h⟩
  | .done, _, _, _, n + 1, _, _, hc, _, h => ⟨fun _ => h, by rw [show Region.ready md ops _ = [] by simpa [wayChk] using hc]; simp⟩
  | .then_ i rest, listed, a, w, 0, hl, _, _, _, _ => by simp [Way.size] at hl
  | .fork i j r s, listed, a, w, 0, hl, _, _, _, _ => by simp [Way.size] at hl
  | .then_ i rest, listed, a, w, fuel + 1, hl, hlt, hc, hdn, h => by
    simp only [Way.size, Nat.add_le_add_iff_right] at hl
    simp only [Way.inside, Bool.and_eq_true, decide_eq_true_eq] at hlt
    unfold wayChk at hc
    rw [Bool.and_eq_true] at hc
    unfold Along at h
    by_cases hR : R.contains i = true
    · rw [if_pos hR] at h
      rw [if_pos hR, Bool.and_eq_true] at hc
      obtain ⟨o, ho, v, hy, hS, hQ, h⟩ := h
      exact wpAnyN_first ho (Region.noSelect_spec hs) hQ (fun j hne hno => needs_of (by simpa using hR) hne hno) fuel listed a w hdn (Region.free_spec ho hc.1.2) (by simpa using hc.1.1) hy hS
        (along_sound hs rest _ _ _ fuel hl hlt.2 hc.2 (down_set hdn (by simpa using hc.1.1)) h)
    · rw [if_neg hR] at h hc
      have hr : Region.ready md ops listed = [i] := by simpa using hc.1
      refine ⟨fun h0 => (by rw [hr] at h0; cases h0), fun j hj => ?_⟩
      rw [hr] at hj
      obtain rfl : j = i := by simpa using hj
      exact wpOp_mono (fun a' w' h' => ⟨h'.1, along_sound hs rest _ a' w' fuel hl hlt.2 hc.2 (down_set hdn (by rw [hr]; simp)) h'.2⟩) h
  | .fork i j r s, listed, a, w, fuel + 1, hl, hlt, hc, hdn, h => by
    simp only [Way.size, Nat.add_le_add_iff_right] at hl
    simp only [Way.inside, Bool.and_eq_true, decide_eq_true_eq] at hlt
    unfold wayChk at hc
    simp only [Bool.and_eq_true, Bool.not_eq_true', beq_iff_eq] at hc
    obtain ⟨⟨⟨⟨-, -⟩, hr⟩, hc1⟩, hc2⟩ := hc
    unfold Along at h
    refine ⟨fun h0 => (by rw [hr] at h0; cases h0), fun k hk => ?_⟩
    rw [hr] at hk
    have hk' : k = i ∨ k = j := by simpa using hk
    rcases hk' with e | e
    · subst e
      exact wpOp_mono (fun a' w' h' => ⟨h'.1, along_sound hs r _ a' w' fuel (by omega) hlt.1.2 hc1 (down_set hdn (by rw [hr]; simp)) h'.2⟩) h.1
    · subst e
      exact wpOp_mono (fun a' w' h' => ⟨h'.1, along_sound hs s _ a' w' fuel (by omega) hlt.2 hc2 (down_set hdn (by rw [hr]; simp)) h'.2⟩) h.2

/-- THE BEGINNING: S: what holds of every world; R: the reads; way: the orders. -/
theorem wp_region_way {id : Nat} {a : Act} {w : World} (S : World → Prop) (R : List Nat) (way : Way) (hm : P.follows .mixedOrders = true)
    (hc : (Region.noSelect ops && decide (way.size ≤ ops.size) && way.inside ops.size && wayChk .any ops R way (Array.replicate ops.size false)) = true)
    (h : Along P .any ops Q S R way a w.drew) : (Code.region id ops true).wp P Q a w := by
  simp only [Bool.and_eq_true, decide_eq_true_eq] at hc
  exact wp_region_any hm (wpAnyN_any _ _ _ _ (along_sound hc.1.1.1 way _ a _ _ hc.1.1.2 hc.1.2 hc.2 (fun j _ _ hj => by simp [Array.getElem?_replicate] at hj; split at hj <;> simp_all) h))

theorem along_read {i : Nat} {rest : Way} {a : Act} {w : World} {o : Oper} {v : Value} (ho : ops[i]? = some o) (hR : R.contains i = true) (hw : Region.wanted o (yielded ops a.tmps) = true)
    (hQ : ∀ c a w, Q (.panic c) (a.put o.dst v) w → Q (.panic c) a w) (hS : S w) (hv : ∀ w, S w → (execOp a.eval o).run P w = .ok (.value v) w) (h : Along P md ops Q S R rest (a.put o.dst v) w) : Along P md ops Q S R (.then_ i rest) a w := by
  unfold Along
  rw [if_pos hR]
  exact ⟨o, ho, v, Or.inl ⟨hw, hv⟩, hS, hQ, h⟩

theorem along_off {i : Nat} {rest : Way} {a : Act} {w : World} {o : Oper} (ho : ops[i]? = some o) (hR : R.contains i = true) (hw : Region.wanted o (yielded ops a.tmps) = false)
    (hQ : ∀ c a w, Q (.panic c) (a.put o.dst undef) w → Q (.panic c) a w) (hS : S w) (h : Along P md ops Q S R rest (a.put o.dst undef) w) : Along P md ops Q S R (.then_ i rest) a w := by
  unfold Along
  rw [if_pos hR]
  exact ⟨o, ho, undef, Or.inr ⟨hw, rfl⟩, hS, hQ, h⟩

theorem along_skip {i : Nat} {rest : Way} {a : Act} {w : World} {o : Oper} (ho : ops[i]? = some o) (hR : R.contains i = false) (hw : Region.wanted o (yielded ops a.tmps) = false)
    (hS : S w) (h : Along P md ops Q S R rest (a.put o.dst undef) w) : Along P md ops Q S R (.then_ i rest) a w := by
  unfold Along
  rw [if_neg (by simp only [hR]; decide)]
  unfold wpOp
  simp only [ho, hw]
  exact ⟨fun _ => hS, h⟩

theorem along_op {i : Nat} {rest : Way} {a : Act} {w : World} {o : Oper} (ho : ops[i]? = some o) (hR : R.contains i = false) (hw : Region.wanted o (yielded ops a.tmps) = true)
    (h : ∀ K : Act → World → Prop, Shut (∀ a w, (needs md ops R i = true → S w) → Along P md ops Q S R rest a w → K a w) → Oper.wp P o a w K Q) : Along P md ops Q S R (.then_ i rest) a w := by
  unfold Along
  rw [if_neg (by simp only [hR]; decide)]
  unfold wpOp
  simp only [ho, hw, if_true]
  exact Or.inl (h _ (fun a w hS hr => ⟨hS, hr⟩))

/-- A fork: both ways. -/
theorem along_fork {i j : Nat} {r s : Way} {a : Act} {w : World} (hi : R.contains i = false) (hj : R.contains j = false) (h1 : Along P md ops Q S R (.then_ i r) a w) (h2 : Along P md ops Q S R (.then_ j s) a w) : Along P md ops Q S R (.fork i j r s) a w := by
  unfold Along at h1 h2 ⊢
  rw [if_neg (by simp only [hi]; decide)] at h1
  rw [if_neg (by simp only [hj]; decide)] at h2
  exact ⟨h1, h2⟩

theorem along_done {a : Act} {w : World} (h : Q .normal a w) : Along P md ops Q S R .done a w := h
end

end Go.Proofs.Ytpbljifejopecaa
