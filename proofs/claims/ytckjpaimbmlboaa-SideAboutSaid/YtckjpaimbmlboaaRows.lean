/-
  No cell of these rows narrows 'for every input' (looked for: loops, veiled, ifaces, maps, wideKeys, modest, calm, conditions, laid).
  DERIVED. THE GIVEN ROWS OF THIS SEAT. 6 by the template 'for every input the law returns true; each argument reads behind the call as it read before'; 0 by the template 'total and deterministic' (their statements: YtckjpaimbmlboaaTotals.lean).
  GIVEN WITH THE SEED: the statements are not yours to turn. If you find one false, say at which input.
  Laid BY PROGRAM, IN A SANDBOX (cutbox-rows.mjs): the forced cells as the released guide's own fill.sh prints them over the translation 9c3d440b502fef7b… (all of the seat's roots in one cut). By AI agents, Wed Nov 11 2026. No macro, syntax, notation, axiom, sorry.
-/
import Derived.Test.YtckjpaimbmlboaaChecked
import GoSem.Claim
import GoSem.ClaimJoined
import GoSem.ClaimMapViews
import Derived.JoinedTies
import Derived.KernelRfl
namespace Go.Proofs.Ytckjpaimbmlboaa
/- THE CELL 'sum', in the pinned program and in every row, IS THE sha256 OF THE DUMP (.gsa) THAT YtckjpaimbmlboaaProg.lean LOADS. Nothing in Lean hashes anything: it is a label: what it is worth is what the hold of that sum in a sandbox is worth. -/
noncomputable def Try.pinned : Pinned := { name := "ytckjpaimbmlboaa", sum := "9c3d440b502fef7bdbf6c2cd0e20c9d3b3b91a68f2ca1c8ff1a740a65b14e7c5", checked := Try.checked }
namespace Rows
def none {H : Type} : Left H := { results := [], args := [] }

/-- 'tracerylaw08.PlanMirror': WHATEVER THE INPUT: true; the input reads as it did. -/
def planMirrorSpec : ChangeSpec := { name := "planMirror", fn := fun _ => fun
  | [d1, d2, d3] => { results := [.lit (.bool true)], args := [d1, d2, d3] }
  | _ => none }
def planMirrorRow : OpenClaim := { program := "ytckjpaimbmlboaa", sum := "9c3d440b502fef7bdbf6c2cd0e20c9d3b3b91a68f2ca1c8ff1a740a65b14e7c5", func := "tracery/tracerylaw08.PlanMirror", spec := "planMirror", unfollowed := true, recurses := true, apart := false }
def PlanMirrorSaid : Prop := planMirrorRow.holds Try.pinned (OpenSpec.ofChange planMirrorSpec)

/-- ITS FALSE NEIGHBOUR: 'it returns false'. Refute it at one input. -/
def planMirrorWrong : ChangeSpec := { name := "planMirror", fn := fun _ => fun
  | [d1, d2, d3] => { results := [.lit (.bool false)], args := [d1, d2, d3] }
  | _ => none }
def PlanMirrorWrongFalsely : Prop := planMirrorRow.holds Try.pinned (OpenSpec.ofChange planMirrorWrong)

/-- 'tracerylaw10.SideAbout': WHATEVER THE INPUT: true; the input reads as it did. -/
def sideAboutSpec : ChangeSpec := { name := "sideAbout", fn := fun _ => fun
  | [d1, d2, d3, d4, d5, d6] => { results := [.lit (.bool true)], args := [d1, d2, d3, d4, d5, d6] }
  | _ => none }
def sideAboutRow : OpenClaim := { program := "ytckjpaimbmlboaa", sum := "9c3d440b502fef7bdbf6c2cd0e20c9d3b3b91a68f2ca1c8ff1a740a65b14e7c5", func := "tracery/tracerylaw10.SideAbout", spec := "sideAbout", unfollowed := true, recurses := true, apart := false }
def SideAboutSaid : Prop := sideAboutRow.holds Try.pinned (OpenSpec.ofChange sideAboutSpec)

/-- ITS FALSE NEIGHBOUR: 'it returns false'. Refute it at one input. -/
def sideAboutWrong : ChangeSpec := { name := "sideAbout", fn := fun _ => fun
  | [d1, d2, d3, d4, d5, d6] => { results := [.lit (.bool false)], args := [d1, d2, d3, d4, d5, d6] }
  | _ => none }
def SideAboutWrongFalsely : Prop := sideAboutRow.holds Try.pinned (OpenSpec.ofChange sideAboutWrong)

/-- 'tracerylaw09.RestDrops': WHATEVER THE INPUT: true; the input reads as it did. -/
def restDropsSpec : ChangeSpec := { name := "restDrops", fn := fun _ => fun
  | [d1, d2, d3, d4] => { results := [.lit (.bool true)], args := [d1, d2, d3, d4] }
  | _ => none }
def restDropsRow : OpenClaim := { program := "ytckjpaimbmlboaa", sum := "9c3d440b502fef7bdbf6c2cd0e20c9d3b3b91a68f2ca1c8ff1a740a65b14e7c5", func := "tracery/tracerylaw09.RestDrops", spec := "restDrops", unfollowed := true, recurses := true, apart := false }
def RestDropsSaid : Prop := restDropsRow.holds Try.pinned (OpenSpec.ofChange restDropsSpec)

/-- ITS FALSE NEIGHBOUR: 'it returns false'. Refute it at one input. -/
def restDropsWrong : ChangeSpec := { name := "restDrops", fn := fun _ => fun
  | [d1, d2, d3, d4] => { results := [.lit (.bool false)], args := [d1, d2, d3, d4] }
  | _ => none }
def RestDropsWrongFalsely : Prop := restDropsRow.holds Try.pinned (OpenSpec.ofChange restDropsWrong)

/-- 'tracerylaw09.RestAgain': WHATEVER THE INPUT: true; the input reads as it did. -/
def restAgainSpec : ChangeSpec := { name := "restAgain", fn := fun _ => fun
  | [d1, d2, d3, d4, d5] => { results := [.lit (.bool true)], args := [d1, d2, d3, d4, d5] }
  | _ => none }
def restAgainRow : OpenClaim := { program := "ytckjpaimbmlboaa", sum := "9c3d440b502fef7bdbf6c2cd0e20c9d3b3b91a68f2ca1c8ff1a740a65b14e7c5", func := "tracery/tracerylaw09.RestAgain", spec := "restAgain", unfollowed := true, recurses := true, apart := false }
def RestAgainSaid : Prop := restAgainRow.holds Try.pinned (OpenSpec.ofChange restAgainSpec)

/-- ITS FALSE NEIGHBOUR: 'it returns false'. Refute it at one input. -/
def restAgainWrong : ChangeSpec := { name := "restAgain", fn := fun _ => fun
  | [d1, d2, d3, d4, d5] => { results := [.lit (.bool false)], args := [d1, d2, d3, d4, d5] }
  | _ => none }
def RestAgainWrongFalsely : Prop := restAgainRow.holds Try.pinned (OpenSpec.ofChange restAgainWrong)

/-- 'tracerylaw09.RestDraws': WHATEVER THE INPUT: true; the input reads as it did. -/
def restDrawsSpec : ChangeSpec := { name := "restDraws", fn := fun _ => fun
  | [d1, d2, d3, d4] => { results := [.lit (.bool true)], args := [d1, d2, d3, d4] }
  | _ => none }
def restDrawsRow : OpenClaim := { program := "ytckjpaimbmlboaa", sum := "9c3d440b502fef7bdbf6c2cd0e20c9d3b3b91a68f2ca1c8ff1a740a65b14e7c5", func := "tracery/tracerylaw09.RestDraws", spec := "restDraws", unfollowed := true, recurses := true, apart := false }
def RestDrawsSaid : Prop := restDrawsRow.holds Try.pinned (OpenSpec.ofChange restDrawsSpec)

/-- ITS FALSE NEIGHBOUR: 'it returns false'. Refute it at one input. -/
def restDrawsWrong : ChangeSpec := { name := "restDraws", fn := fun _ => fun
  | [d1, d2, d3, d4] => { results := [.lit (.bool false)], args := [d1, d2, d3, d4] }
  | _ => none }
def RestDrawsWrongFalsely : Prop := restDrawsRow.holds Try.pinned (OpenSpec.ofChange restDrawsWrong)

/-- 'tracerylaw09.RestMirror': WHATEVER THE INPUT: true; the input reads as it did. -/
def restMirrorSpec : ChangeSpec := { name := "restMirror", fn := fun _ => fun
  | [d1, d2, d3, d4] => { results := [.lit (.bool true)], args := [d1, d2, d3, d4] }
  | _ => none }
def restMirrorRow : OpenClaim := { program := "ytckjpaimbmlboaa", sum := "9c3d440b502fef7bdbf6c2cd0e20c9d3b3b91a68f2ca1c8ff1a740a65b14e7c5", func := "tracery/tracerylaw09.RestMirror", spec := "restMirror", unfollowed := true, recurses := true, apart := false }
def RestMirrorSaid : Prop := restMirrorRow.holds Try.pinned (OpenSpec.ofChange restMirrorSpec)

/-- ITS FALSE NEIGHBOUR: 'it returns false'. Refute it at one input. -/
def restMirrorWrong : ChangeSpec := { name := "restMirror", fn := fun _ => fun
  | [d1, d2, d3, d4] => { results := [.lit (.bool false)], args := [d1, d2, d3, d4] }
  | _ => none }
def RestMirrorWrongFalsely : Prop := restMirrorRow.holds Try.pinned (OpenSpec.ofChange restMirrorWrong)

/- THE SECOND FORM. 'bulk': how many values and letters a reading holds, each counted each time it is reached (what is shared counts as often as it is met; a slice's spare places count too). A statement '..UptoSaid' is the law's where the arguments, and the package variables that the reading takes, are together of bulk at most 1048576: NARROWER than '..Said'. Prove '..Said' where nothing that the law and all that it calls make is longer than what came in: it says more and counts as full. Else prove '..UptoSaid'. A law counts once. -/
mutual
def uptoBulk {H : Type} : DataW H → Nat
  | .lit (.string bytes) => bytes.length + 1
  | .lit _ => 1
  | .nil => 1
  | .ptr d => uptoBulk d + 1
  | .slice elems spare => uptoBulkAll elems + uptoBulkAll spare + 1
  | .agg parts => uptoBulkAll parts + 1
  | .iface _ d => uptoBulk d + 1
  | .map entries => uptoBulkEntries entries + 1
  | .held _ => 1
def uptoBulkAll {H : Type} : List (DataW H) → Nat
  | [] => 0
  | d :: r => uptoBulk d + uptoBulkAll r
def uptoBulkEntries {H : Type} : List (Lit × DataW H) → Nat
  | [] => 0
  | x :: r => uptoBulkEntry x + uptoBulkEntries r
def uptoBulkEntry {H : Type} : Lit × DataW H → Nat
  | (.string bytes, d) => bytes.length + uptoBulk d + 1
  | (_, d) => uptoBulk d + 1
 end
def uptoSmall : (H : Type) → List (DataW H) → Bool := fun _ ds => decide (uptoBulkAll ds ≤ 1048576)
def OpenSpec.upto (s : _root_.Go.ChangeSpec) : _root_.Go.OpenSpec := { _root_.Go.OpenSpec.ofChange s with cond := some uptoSmall }

/-- 'tracerylaw08.PlanMirror', WHERE WHAT IT READS IS OF BULK AT MOST 1048576: true; the input reads as it did. -/
def planMirrorUptoRow : OpenClaim := { program := "ytckjpaimbmlboaa", sum := "9c3d440b502fef7bdbf6c2cd0e20c9d3b3b91a68f2ca1c8ff1a740a65b14e7c5", func := "tracery/tracerylaw08.PlanMirror", spec := "planMirror", unfollowed := true, recurses := true, apart := false, narrowed := true }
def PlanMirrorUptoSaid : Prop := planMirrorUptoRow.holds Try.pinned (OpenSpec.upto planMirrorSpec)

/-- 'tracerylaw10.SideAbout', WHERE WHAT IT READS IS OF BULK AT MOST 1048576: true; the input reads as it did. -/
def sideAboutUptoRow : OpenClaim := { program := "ytckjpaimbmlboaa", sum := "9c3d440b502fef7bdbf6c2cd0e20c9d3b3b91a68f2ca1c8ff1a740a65b14e7c5", func := "tracery/tracerylaw10.SideAbout", spec := "sideAbout", unfollowed := true, recurses := true, apart := false, narrowed := true }
def SideAboutUptoSaid : Prop := sideAboutUptoRow.holds Try.pinned (OpenSpec.upto sideAboutSpec)

/-- 'tracerylaw09.RestDrops', WHERE WHAT IT READS IS OF BULK AT MOST 1048576: true; the input reads as it did. -/
def restDropsUptoRow : OpenClaim := { program := "ytckjpaimbmlboaa", sum := "9c3d440b502fef7bdbf6c2cd0e20c9d3b3b91a68f2ca1c8ff1a740a65b14e7c5", func := "tracery/tracerylaw09.RestDrops", spec := "restDrops", unfollowed := true, recurses := true, apart := false, narrowed := true }
def RestDropsUptoSaid : Prop := restDropsUptoRow.holds Try.pinned (OpenSpec.upto restDropsSpec)

/-- 'tracerylaw09.RestAgain', WHERE WHAT IT READS IS OF BULK AT MOST 1048576: true; the input reads as it did. -/
def restAgainUptoRow : OpenClaim := { program := "ytckjpaimbmlboaa", sum := "9c3d440b502fef7bdbf6c2cd0e20c9d3b3b91a68f2ca1c8ff1a740a65b14e7c5", func := "tracery/tracerylaw09.RestAgain", spec := "restAgain", unfollowed := true, recurses := true, apart := false, narrowed := true }
def RestAgainUptoSaid : Prop := restAgainUptoRow.holds Try.pinned (OpenSpec.upto restAgainSpec)

/-- 'tracerylaw09.RestDraws', WHERE WHAT IT READS IS OF BULK AT MOST 1048576: true; the input reads as it did. -/
def restDrawsUptoRow : OpenClaim := { program := "ytckjpaimbmlboaa", sum := "9c3d440b502fef7bdbf6c2cd0e20c9d3b3b91a68f2ca1c8ff1a740a65b14e7c5", func := "tracery/tracerylaw09.RestDraws", spec := "restDraws", unfollowed := true, recurses := true, apart := false, narrowed := true }
def RestDrawsUptoSaid : Prop := restDrawsUptoRow.holds Try.pinned (OpenSpec.upto restDrawsSpec)

/-- 'tracerylaw09.RestMirror', WHERE WHAT IT READS IS OF BULK AT MOST 1048576: true; the input reads as it did. -/
def restMirrorUptoRow : OpenClaim := { program := "ytckjpaimbmlboaa", sum := "9c3d440b502fef7bdbf6c2cd0e20c9d3b3b91a68f2ca1c8ff1a740a65b14e7c5", func := "tracery/tracerylaw09.RestMirror", spec := "restMirror", unfollowed := true, recurses := true, apart := false, narrowed := true }
def RestMirrorUptoSaid : Prop := restMirrorUptoRow.holds Try.pinned (OpenSpec.upto restMirrorSpec)

end Rows
end Go.Proofs.Ytckjpaimbmlboaa
