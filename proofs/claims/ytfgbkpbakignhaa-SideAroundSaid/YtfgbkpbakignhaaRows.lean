/-
  No cell of these rows narrows 'for every input' (looked for: loops, veiled, ifaces, maps, wideKeys, modest, calm, conditions, laid).
  DERIVED. THE GIVEN ROWS OF THIS SEAT. 3 by the template 'for every input the law returns true; each argument reads behind the call as it read before'; 0 by the template 'total and deterministic' (their statements: YtfgbkpbakignhaaTotals.lean).
  GIVEN WITH THE SEED: the statements are not yours to turn. If you find one false, say at which input.
  Laid BY PROGRAM, IN A SANDBOX (cutbox-rows.mjs): the forced cells as the released guide's own fill.sh prints them over the translation 1db47e74449416ce… (all of the seat's roots in one cut). By AI agents, Wed Nov 11 2026. No macro, syntax, notation, axiom, sorry.
-/
import Derived.Test.YtfgbkpbakignhaaChecked
import GoSem.Claim
import GoSem.ClaimJoined
import GoSem.ClaimMapViews
import Derived.JoinedTies
import Derived.KernelRfl
namespace Go.Proofs.Ytfgbkpbakignhaa
/- THE CELL 'sum', in the pinned program and in every row, IS THE sha256 OF THE DUMP (.gsa) THAT YtfgbkpbakignhaaProg.lean LOADS. Nothing in Lean hashes anything: it is a label: what it is worth is what the hold of that sum in a sandbox is worth. -/
noncomputable def Try.pinned : Pinned := { name := "ytfgbkpbakignhaa", sum := "1db47e74449416ce589b75cd3917c4bef547c884a746792078d13403334e569d", checked := Try.checked }
namespace Rows
def none {H : Type} : Left H := { results := [], args := [] }

/-- 'tracerylaw10.SideAlls': WHATEVER THE INPUT: true; the input reads as it did. -/
def sideAllsSpec : ChangeSpec := { name := "sideAlls", fn := fun _ => fun
  | [d1, d2, d3, d4] => { results := [.lit (.bool true)], args := [d1, d2, d3, d4] }
  | _ => none }
def sideAllsRow : OpenClaim := { program := "ytfgbkpbakignhaa", sum := "1db47e74449416ce589b75cd3917c4bef547c884a746792078d13403334e569d", func := "tracery/tracerylaw10.SideAlls", spec := "sideAlls", unfollowed := true, recurses := true, apart := false }
def SideAllsSaid : Prop := sideAllsRow.holds Try.pinned (OpenSpec.ofChange sideAllsSpec)

/-- ITS FALSE NEIGHBOUR: 'it returns false'. Refute it at one input. -/
def sideAllsWrong : ChangeSpec := { name := "sideAlls", fn := fun _ => fun
  | [d1, d2, d3, d4] => { results := [.lit (.bool false)], args := [d1, d2, d3, d4] }
  | _ => none }
def SideAllsWrongFalsely : Prop := sideAllsRow.holds Try.pinned (OpenSpec.ofChange sideAllsWrong)

/-- 'tracerylaw10.SideEdges': WHATEVER THE INPUT: true; the input reads as it did. -/
def sideEdgesSpec : ChangeSpec := { name := "sideEdges", fn := fun _ => fun
  | [d1, d2, d3, d4] => { results := [.lit (.bool true)], args := [d1, d2, d3, d4] }
  | _ => none }
def sideEdgesRow : OpenClaim := { program := "ytfgbkpbakignhaa", sum := "1db47e74449416ce589b75cd3917c4bef547c884a746792078d13403334e569d", func := "tracery/tracerylaw10.SideEdges", spec := "sideEdges", unfollowed := true, recurses := true, apart := false }
def SideEdgesSaid : Prop := sideEdgesRow.holds Try.pinned (OpenSpec.ofChange sideEdgesSpec)

/-- ITS FALSE NEIGHBOUR: 'it returns false'. Refute it at one input. -/
def sideEdgesWrong : ChangeSpec := { name := "sideEdges", fn := fun _ => fun
  | [d1, d2, d3, d4] => { results := [.lit (.bool false)], args := [d1, d2, d3, d4] }
  | _ => none }
def SideEdgesWrongFalsely : Prop := sideEdgesRow.holds Try.pinned (OpenSpec.ofChange sideEdgesWrong)

/-- 'tracerylaw10.SideAround': WHATEVER THE INPUT: true; the input reads as it did. -/
def sideAroundSpec : ChangeSpec := { name := "sideAround", fn := fun _ => fun
  | [d1, d2, d3] => { results := [.lit (.bool true)], args := [d1, d2, d3] }
  | _ => none }
def sideAroundRow : OpenClaim := { program := "ytfgbkpbakignhaa", sum := "1db47e74449416ce589b75cd3917c4bef547c884a746792078d13403334e569d", func := "tracery/tracerylaw10.SideAround", spec := "sideAround", unfollowed := true, recurses := true, apart := false }
def SideAroundSaid : Prop := sideAroundRow.holds Try.pinned (OpenSpec.ofChange sideAroundSpec)

/-- ITS FALSE NEIGHBOUR: 'it returns false'. Refute it at one input. -/
def sideAroundWrong : ChangeSpec := { name := "sideAround", fn := fun _ => fun
  | [d1, d2, d3] => { results := [.lit (.bool false)], args := [d1, d2, d3] }
  | _ => none }
def SideAroundWrongFalsely : Prop := sideAroundRow.holds Try.pinned (OpenSpec.ofChange sideAroundWrong)

/- THE SECOND FORM. 'bulk': how many values and letters a reading holds, each counted each time it is reached (what is shared counts as often as it is met; a slice's spare places count too). A statement '..UptoSaid' is the law's where the arguments, and the package variables that the reading takes, are together of bulk at most 1048576: NARROWER than '..Said'. Prove '..Said' where nothing that the law and all that it calls make is longer than what came in: it says more and counts as full. Else prove '..UptoSaid'. A law counts once. -/
mutual
def uptoBulk {H : Type} : DataW H → Nat
  | .lit (.string bytes) => bytes.length + 1
  | .lit _ => 1
  | .nil => 1
  | .ptr d => uptoBulk d + 1
  | .slice elems spare => uptoBulkAll elems + uptoBulkAll spare + 1
  | .agg parts => uptoBulkAll parts + 1
  | .iface _ d => uptoBulk d + 1
  | .map entries => uptoBulkEntries entries + 1
  | .held _ => 1
def uptoBulkAll {H : Type} : List (DataW H) → Nat
  | [] => 0
  | d :: r => uptoBulk d + uptoBulkAll r
def uptoBulkEntries {H : Type} : List (Lit × DataW H) → Nat
  | [] => 0
  | x :: r => uptoBulkEntry x + uptoBulkEntries r
def uptoBulkEntry {H : Type} : Lit × DataW H → Nat
  | (.string bytes, d) => bytes.length + uptoBulk d + 1
  | (_, d) => uptoBulk d + 1
 end
def uptoSmall : (H : Type) → List (DataW H) → Bool := fun _ ds => decide (uptoBulkAll ds ≤ 1048576)
def OpenSpec.upto (s : _root_.Go.ChangeSpec) : _root_.Go.OpenSpec := { _root_.Go.OpenSpec.ofChange s with cond := some uptoSmall }

/-- 'tracerylaw10.SideAlls', WHERE WHAT IT READS IS OF BULK AT MOST 1048576: true; the input reads as it did. -/
def sideAllsUptoRow : OpenClaim := { program := "ytfgbkpbakignhaa", sum := "1db47e74449416ce589b75cd3917c4bef547c884a746792078d13403334e569d", func := "tracery/tracerylaw10.SideAlls", spec := "sideAlls", unfollowed := true, recurses := true, apart := false, narrowed := true }
def SideAllsUptoSaid : Prop := sideAllsUptoRow.holds Try.pinned (OpenSpec.upto sideAllsSpec)

/-- 'tracerylaw10.SideEdges', WHERE WHAT IT READS IS OF BULK AT MOST 1048576: true; the input reads as it did. -/
def sideEdgesUptoRow : OpenClaim := { program := "ytfgbkpbakignhaa", sum := "1db47e74449416ce589b75cd3917c4bef547c884a746792078d13403334e569d", func := "tracery/tracerylaw10.SideEdges", spec := "sideEdges", unfollowed := true, recurses := true, apart := false, narrowed := true }
def SideEdgesUptoSaid : Prop := sideEdgesUptoRow.holds Try.pinned (OpenSpec.upto sideEdgesSpec)

/-- 'tracerylaw10.SideAround', WHERE WHAT IT READS IS OF BULK AT MOST 1048576: true; the input reads as it did. -/
def sideAroundUptoRow : OpenClaim := { program := "ytfgbkpbakignhaa", sum := "1db47e74449416ce589b75cd3917c4bef547c884a746792078d13403334e569d", func := "tracery/tracerylaw10.SideAround", spec := "sideAround", unfollowed := true, recurses := true, apart := false, narrowed := true }
def SideAroundUptoSaid : Prop := sideAroundUptoRow.holds Try.pinned (OpenSpec.upto sideAroundSpec)

end Rows
end Go.Proofs.Ytfgbkpbakignhaa
