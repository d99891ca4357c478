/-
  No cell of these rows narrows 'for every input' (looked for: loops, veiled, ifaces, maps, wideKeys, modest, calm, conditions, laid).
  DERIVED. THE GIVEN ROWS OF THIS SEAT. 4 by the template 'for every input the law returns true; each argument reads behind the call as it read before'; 0 by the template 'total and deterministic' (their statements: YtgepchafbeifeaaTotals.lean).
  GIVEN WITH THE SEED: the statements are not yours to turn. If you find one false, say at which input.
  Laid BY PROGRAM, IN A SANDBOX (cutbox-rows.mjs): the forced cells as the released guide's own fill.sh prints them over the translation 06ba1262686a4e23… (all of the seat's roots in one cut). By AI agents, Wed Nov 11 2026. No macro, syntax, notation, axiom, sorry.
-/
import Derived.Test.YtgepchafbeifeaaChecked
import GoSem.Claim
import GoSem.ClaimJoined
import GoSem.ClaimMapViews
import Derived.JoinedTies
import Derived.KernelRfl
namespace Go.Proofs.Ytgepchafbeifeaa
/- THE CELL 'sum', in the pinned program and in every row, IS THE sha256 OF THE DUMP (.gsa) THAT YtgepchafbeifeaaProg.lean LOADS. Nothing in Lean hashes anything: it is a label: what it is worth is what the hold of that sum in a sandbox is worth. -/
noncomputable def Try.pinned : Pinned := { name := "ytgepchafbeifeaa", sum := "06ba1262686a4e2318b26ae668b1662fc0addd829df2a5483e9a80b9dd3f4035", checked := Try.checked }
namespace Rows
def none {H : Type} : Left H := { results := [], args := [] }

/-- 'tracerylaw03.SetsJoin': WHATEVER THE INPUT: true; the input reads as it did. -/
def setsJoinSpec : ChangeSpec := { name := "setsJoin", fn := fun _ => fun
  | [d1, d2, d3, d4] => { results := [.lit (.bool true)], args := [d1, d2, d3, d4] }
  | _ => none }
def setsJoinRow : OpenClaim := { program := "ytgepchafbeifeaa", sum := "06ba1262686a4e2318b26ae668b1662fc0addd829df2a5483e9a80b9dd3f4035", func := "tracery/tracerylaw03.SetsJoin", spec := "setsJoin", unfollowed := true, recurses := true, apart := false }
def SetsJoinSaid : Prop := setsJoinRow.holds Try.pinned (OpenSpec.ofChange setsJoinSpec)

/-- ITS FALSE NEIGHBOUR: 'it returns false'. Refute it at one input. -/
def setsJoinWrong : ChangeSpec := { name := "setsJoin", fn := fun _ => fun
  | [d1, d2, d3, d4] => { results := [.lit (.bool false)], args := [d1, d2, d3, d4] }
  | _ => none }
def SetsJoinWrongFalsely : Prop := setsJoinRow.holds Try.pinned (OpenSpec.ofChange setsJoinWrong)

/-- 'tracerylaw03.SetsHeads': WHATEVER THE INPUT: true; the input reads as it did. -/
def setsHeadsSpec : ChangeSpec := { name := "setsHeads", fn := fun _ => fun
  | [d1, d2, d3] => { results := [.lit (.bool true)], args := [d1, d2, d3] }
  | _ => none }
def setsHeadsRow : OpenClaim := { program := "ytgepchafbeifeaa", sum := "06ba1262686a4e2318b26ae668b1662fc0addd829df2a5483e9a80b9dd3f4035", func := "tracery/tracerylaw03.SetsHeads", spec := "setsHeads", unfollowed := true, recurses := true, apart := false }
def SetsHeadsSaid : Prop := setsHeadsRow.holds Try.pinned (OpenSpec.ofChange setsHeadsSpec)

/-- ITS FALSE NEIGHBOUR: 'it returns false'. Refute it at one input. -/
def setsHeadsWrong : ChangeSpec := { name := "setsHeads", fn := fun _ => fun
  | [d1, d2, d3] => { results := [.lit (.bool false)], args := [d1, d2, d3] }
  | _ => none }
def SetsHeadsWrongFalsely : Prop := setsHeadsRow.holds Try.pinned (OpenSpec.ofChange setsHeadsWrong)

/-- 'tracerylaw03.SetsPlays': WHATEVER THE INPUT: true; the input reads as it did. -/
def setsPlaysSpec : ChangeSpec := { name := "setsPlays", fn := fun _ => fun
  | [d1, d2, d3, d4] => { results := [.lit (.bool true)], args := [d1, d2, d3, d4] }
  | _ => none }
def setsPlaysRow : OpenClaim := { program := "ytgepchafbeifeaa", sum := "06ba1262686a4e2318b26ae668b1662fc0addd829df2a5483e9a80b9dd3f4035", func := "tracery/tracerylaw03.SetsPlays", spec := "setsPlays", unfollowed := true, recurses := true, apart := false }
def SetsPlaysSaid : Prop := setsPlaysRow.holds Try.pinned (OpenSpec.ofChange setsPlaysSpec)

/-- ITS FALSE NEIGHBOUR: 'it returns false'. Refute it at one input. -/
def setsPlaysWrong : ChangeSpec := { name := "setsPlays", fn := fun _ => fun
  | [d1, d2, d3, d4] => { results := [.lit (.bool false)], args := [d1, d2, d3, d4] }
  | _ => none }
def SetsPlaysWrongFalsely : Prop := setsPlaysRow.holds Try.pinned (OpenSpec.ofChange setsPlaysWrong)

/-- 'tracerylaw03.SetsNil': WHATEVER THE INPUT: true; the input reads as it did. -/
def setsNilSpec : ChangeSpec := { name := "setsNil", fn := fun _ => fun
  | [d1, d2] => { results := [.lit (.bool true)], args := [d1, d2] }
  | _ => none }
def setsNilRow : OpenClaim := { program := "ytgepchafbeifeaa", sum := "06ba1262686a4e2318b26ae668b1662fc0addd829df2a5483e9a80b9dd3f4035", func := "tracery/tracerylaw03.SetsNil", spec := "setsNil", unfollowed := true, recurses := true, apart := false }
def SetsNilSaid : Prop := setsNilRow.holds Try.pinned (OpenSpec.ofChange setsNilSpec)

/-- ITS FALSE NEIGHBOUR: 'it returns false'. Refute it at one input. -/
def setsNilWrong : ChangeSpec := { name := "setsNil", fn := fun _ => fun
  | [d1, d2] => { results := [.lit (.bool false)], args := [d1, d2] }
  | _ => none }
def SetsNilWrongFalsely : Prop := setsNilRow.holds Try.pinned (OpenSpec.ofChange setsNilWrong)

/- THE SECOND FORM. 'bulk': how many values and letters a reading holds, each counted each time it is reached (what is shared counts as often as it is met; a slice's spare places count too). A statement '..UptoSaid' is the law's where the arguments, and the package variables that the reading takes, are together of bulk at most 1048576: NARROWER than '..Said'. Prove '..Said' where nothing that the law and all that it calls make is longer than what came in: it says more and counts as full. Else prove '..UptoSaid'. A law counts once. -/
mutual
def uptoBulk {H : Type} : DataW H → Nat
  | .lit (.string bytes) => bytes.length + 1
  | .lit _ => 1
  | .nil => 1
  | .ptr d => uptoBulk d + 1
  | .slice elems spare => uptoBulkAll elems + uptoBulkAll spare + 1
  | .agg parts => uptoBulkAll parts + 1
  | .iface _ d => uptoBulk d + 1
  | .map entries => uptoBulkEntries entries + 1
  | .held _ => 1
def uptoBulkAll {H : Type} : List (DataW H) → Nat
  | [] => 0
  | d :: r => uptoBulk d + uptoBulkAll r
def uptoBulkEntries {H : Type} : List (Lit × DataW H) → Nat
  | [] => 0
  | x :: r => uptoBulkEntry x + uptoBulkEntries r
def uptoBulkEntry {H : Type} : Lit × DataW H → Nat
  | (.string bytes, d) => bytes.length + uptoBulk d + 1
  | (_, d) => uptoBulk d + 1
 end
def uptoSmall : (H : Type) → List (DataW H) → Bool := fun _ ds => decide (uptoBulkAll ds ≤ 1048576)
def OpenSpec.upto (s : _root_.Go.ChangeSpec) : _root_.Go.OpenSpec := { _root_.Go.OpenSpec.ofChange s with cond := some uptoSmall }

/-- 'tracerylaw03.SetsJoin', WHERE WHAT IT READS IS OF BULK AT MOST 1048576: true; the input reads as it did. -/
def setsJoinUptoRow : OpenClaim := { program := "ytgepchafbeifeaa", sum := "06ba1262686a4e2318b26ae668b1662fc0addd829df2a5483e9a80b9dd3f4035", func := "tracery/tracerylaw03.SetsJoin", spec := "setsJoin", unfollowed := true, recurses := true, apart := false, narrowed := true }
def SetsJoinUptoSaid : Prop := setsJoinUptoRow.holds Try.pinned (OpenSpec.upto setsJoinSpec)

/-- 'tracerylaw03.SetsHeads', WHERE WHAT IT READS IS OF BULK AT MOST 1048576: true; the input reads as it did. -/
def setsHeadsUptoRow : OpenClaim := { program := "ytgepchafbeifeaa", sum := "06ba1262686a4e2318b26ae668b1662fc0addd829df2a5483e9a80b9dd3f4035", func := "tracery/tracerylaw03.SetsHeads", spec := "setsHeads", unfollowed := true, recurses := true, apart := false, narrowed := true }
def SetsHeadsUptoSaid : Prop := setsHeadsUptoRow.holds Try.pinned (OpenSpec.upto setsHeadsSpec)

/-- 'tracerylaw03.SetsPlays', WHERE WHAT IT READS IS OF BULK AT MOST 1048576: true; the input reads as it did. -/
def setsPlaysUptoRow : OpenClaim := { program := "ytgepchafbeifeaa", sum := "06ba1262686a4e2318b26ae668b1662fc0addd829df2a5483e9a80b9dd3f4035", func := "tracery/tracerylaw03.SetsPlays", spec := "setsPlays", unfollowed := true, recurses := true, apart := false, narrowed := true }
def SetsPlaysUptoSaid : Prop := setsPlaysUptoRow.holds Try.pinned (OpenSpec.upto setsPlaysSpec)

/-- 'tracerylaw03.SetsNil', WHERE WHAT IT READS IS OF BULK AT MOST 1048576: true; the input reads as it did. -/
def setsNilUptoRow : OpenClaim := { program := "ytgepchafbeifeaa", sum := "06ba1262686a4e2318b26ae668b1662fc0addd829df2a5483e9a80b9dd3f4035", func := "tracery/tracerylaw03.SetsNil", spec := "setsNil", unfollowed := true, recurses := true, apart := false, narrowed := true }
def SetsNilUptoSaid : Prop := setsNilUptoRow.holds Try.pinned (OpenSpec.upto setsNilSpec)

end Rows
end Go.Proofs.Ytgepchafbeifeaa
