/-
  No cell of these rows narrows 'for every input' (looked for: loops, veiled, ifaces, maps, wideKeys, modest, calm, conditions, laid).
  DERIVED. THE GIVEN ROWS OF THIS SEAT. 7 by the template 'for every input the law returns true; each argument reads behind the call as it read before'; 0 by the template 'total and deterministic' (their statements: YtoiflofhcmjpoaaGreatTotals.lean).
  GIVEN WITH THE SEED: the statements are not yours to turn. If you find one false, say at which input.
  Laid BY PROGRAM, IN A SANDBOX (cutbox-rows.mjs): the forced cells as the released guide's own fill.sh prints them over the translation 90a0542f9ed0ec9b… (all of the seat's roots in one cut). By AI agents, Wed Nov 11 2026. No macro, syntax, notation, axiom, sorry.
-/
import Derived.Test.YtoiflofhcmjpoaaGreatChecked
import GoSem.Claim
import GoSem.ClaimJoined
import GoSem.ClaimMapViews
import Derived.JoinedTies
import Derived.KernelRfl
namespace Go.Proofs.YtoiflofhcmjpoaaGreat
/- THE CELL 'sum', in the pinned program and in every row, IS THE sha256 OF THE DUMP (.gsa) THAT YtoiflofhcmjpoaaGreatProg.lean LOADS. Nothing in Lean hashes anything: it is a label: what it is worth is what the hold of that sum in a sandbox is worth. -/
noncomputable def Tryz.pinned : Pinned := { name := "ytoiflofhcmjpoaagreat", sum := "90a0542f9ed0ec9b89c69c3624dea45c17b48fa1d43f1f02cbae6710307ebdc2", checked := Tryz.checked }
namespace Rows
def none {H : Type} : Left H := { results := [], args := [] }

/-- 'tracerylaw13.FlatTries': WHATEVER THE INPUT: true; the input reads as it did. -/
def flatTriesSpec : ChangeSpec := { name := "flatTries", fn := fun _ => fun
  | [d1, d2] => { results := [.lit (.bool true)], args := [d1, d2] }
  | _ => none }
def flatTriesRow : OpenClaim := { program := "ytoiflofhcmjpoaagreat", sum := "90a0542f9ed0ec9b89c69c3624dea45c17b48fa1d43f1f02cbae6710307ebdc2", func := "tracery/tracerylaw13.FlatTries", spec := "flatTries", unfollowed := true, recurses := true, apart := false }
def FlatTriesSaid : Prop := flatTriesRow.holds Tryz.pinned (OpenSpec.ofChange flatTriesSpec)

/-- ITS FALSE NEIGHBOUR: 'it returns false'. Refute it at one input. -/
def flatTriesWrong : ChangeSpec := { name := "flatTries", fn := fun _ => fun
  | [d1, d2] => { results := [.lit (.bool false)], args := [d1, d2] }
  | _ => none }
def FlatTriesWrongFalsely : Prop := flatTriesRow.holds Tryz.pinned (OpenSpec.ofChange flatTriesWrong)

/-- 'tracerylaw13.FlatKnots': WHATEVER THE INPUT: true; the input reads as it did. -/
def flatKnotsSpec : ChangeSpec := { name := "flatKnots", fn := fun _ => fun
  | [d1, d2] => { results := [.lit (.bool true)], args := [d1, d2] }
  | _ => none }
def flatKnotsRow : OpenClaim := { program := "ytoiflofhcmjpoaagreat", sum := "90a0542f9ed0ec9b89c69c3624dea45c17b48fa1d43f1f02cbae6710307ebdc2", func := "tracery/tracerylaw13.FlatKnots", spec := "flatKnots", unfollowed := true, recurses := true, apart := false }
def FlatKnotsSaid : Prop := flatKnotsRow.holds Tryz.pinned (OpenSpec.ofChange flatKnotsSpec)

/-- ITS FALSE NEIGHBOUR: 'it returns false'. Refute it at one input. -/
def flatKnotsWrong : ChangeSpec := { name := "flatKnots", fn := fun _ => fun
  | [d1, d2] => { results := [.lit (.bool false)], args := [d1, d2] }
  | _ => none }
def FlatKnotsWrongFalsely : Prop := flatKnotsRow.holds Tryz.pinned (OpenSpec.ofChange flatKnotsWrong)

/-- 'tracerylaw13.FlatKinds': WHATEVER THE INPUT: true; the input reads as it did. -/
def flatKindsSpec : ChangeSpec := { name := "flatKinds", fn := fun _ => fun
  | [d1, d2] => { results := [.lit (.bool true)], args := [d1, d2] }
  | _ => none }
def flatKindsRow : OpenClaim := { program := "ytoiflofhcmjpoaagreat", sum := "90a0542f9ed0ec9b89c69c3624dea45c17b48fa1d43f1f02cbae6710307ebdc2", func := "tracery/tracerylaw13.FlatKinds", spec := "flatKinds", unfollowed := true, recurses := true, apart := false }
def FlatKindsSaid : Prop := flatKindsRow.holds Tryz.pinned (OpenSpec.ofChange flatKindsSpec)

/-- ITS FALSE NEIGHBOUR: 'it returns false'. Refute it at one input. -/
def flatKindsWrong : ChangeSpec := { name := "flatKinds", fn := fun _ => fun
  | [d1, d2] => { results := [.lit (.bool false)], args := [d1, d2] }
  | _ => none }
def FlatKindsWrongFalsely : Prop := flatKindsRow.holds Tryz.pinned (OpenSpec.ofChange flatKindsWrong)

/-- 'tracerylaw12.DrawWays': WHATEVER THE INPUT: true; the input reads as it did. -/
def drawWaysSpec : ChangeSpec := { name := "drawWays", fn := fun _ => fun
  | [d1, d2] => { results := [.lit (.bool true)], args := [d1, d2] }
  | _ => none }
def drawWaysRow : OpenClaim := { program := "ytoiflofhcmjpoaagreat", sum := "90a0542f9ed0ec9b89c69c3624dea45c17b48fa1d43f1f02cbae6710307ebdc2", func := "tracery/tracerylaw12.DrawWays", spec := "drawWays", unfollowed := true, recurses := true, apart := false }
def DrawWaysSaid : Prop := drawWaysRow.holds Tryz.pinned (OpenSpec.ofChange drawWaysSpec)

/-- ITS FALSE NEIGHBOUR: 'it returns false'. Refute it at one input. -/
def drawWaysWrong : ChangeSpec := { name := "drawWays", fn := fun _ => fun
  | [d1, d2] => { results := [.lit (.bool false)], args := [d1, d2] }
  | _ => none }
def DrawWaysWrongFalsely : Prop := drawWaysRow.holds Tryz.pinned (OpenSpec.ofChange drawWaysWrong)

/-- 'tracerylaw12.DrawTries': WHATEVER THE INPUT: true; the input reads as it did. -/
def drawTriesSpec : ChangeSpec := { name := "drawTries", fn := fun _ => fun
  | [d1, d2, d3] => { results := [.lit (.bool true)], args := [d1, d2, d3] }
  | _ => none }
def drawTriesRow : OpenClaim := { program := "ytoiflofhcmjpoaagreat", sum := "90a0542f9ed0ec9b89c69c3624dea45c17b48fa1d43f1f02cbae6710307ebdc2", func := "tracery/tracerylaw12.DrawTries", spec := "drawTries", unfollowed := true, recurses := true, apart := false }
def DrawTriesSaid : Prop := drawTriesRow.holds Tryz.pinned (OpenSpec.ofChange drawTriesSpec)

/-- ITS FALSE NEIGHBOUR: 'it returns false'. Refute it at one input. -/
def drawTriesWrong : ChangeSpec := { name := "drawTries", fn := fun _ => fun
  | [d1, d2, d3] => { results := [.lit (.bool false)], args := [d1, d2, d3] }
  | _ => none }
def DrawTriesWrongFalsely : Prop := drawTriesRow.holds Tryz.pinned (OpenSpec.ofChange drawTriesWrong)

/-- 'tracerylaw13.FlatBlocks': WHATEVER THE INPUT: true; the input reads as it did. -/
def flatBlocksSpec : ChangeSpec := { name := "flatBlocks", fn := fun _ => fun
  | [d1, d2] => { results := [.lit (.bool true)], args := [d1, d2] }
  | _ => none }
def flatBlocksRow : OpenClaim := { program := "ytoiflofhcmjpoaagreat", sum := "90a0542f9ed0ec9b89c69c3624dea45c17b48fa1d43f1f02cbae6710307ebdc2", func := "tracery/tracerylaw13.FlatBlocks", spec := "flatBlocks", unfollowed := true, recurses := true, apart := false }
def FlatBlocksSaid : Prop := flatBlocksRow.holds Tryz.pinned (OpenSpec.ofChange flatBlocksSpec)

/-- ITS FALSE NEIGHBOUR: 'it returns false'. Refute it at one input. -/
def flatBlocksWrong : ChangeSpec := { name := "flatBlocks", fn := fun _ => fun
  | [d1, d2] => { results := [.lit (.bool false)], args := [d1, d2] }
  | _ => none }
def FlatBlocksWrongFalsely : Prop := flatBlocksRow.holds Tryz.pinned (OpenSpec.ofChange flatBlocksWrong)

/-- 'tracerylaw13.FlatDraws': WHATEVER THE INPUT: true; the input reads as it did. -/
def flatDrawsSpec : ChangeSpec := { name := "flatDraws", fn := fun _ => fun
  | [d1, d2, d3, d4] => { results := [.lit (.bool true)], args := [d1, d2, d3, d4] }
  | _ => none }
def flatDrawsRow : OpenClaim := { program := "ytoiflofhcmjpoaagreat", sum := "90a0542f9ed0ec9b89c69c3624dea45c17b48fa1d43f1f02cbae6710307ebdc2", func := "tracery/tracerylaw13.FlatDraws", spec := "flatDraws", unfollowed := true, recurses := true, apart := false }
def FlatDrawsSaid : Prop := flatDrawsRow.holds Tryz.pinned (OpenSpec.ofChange flatDrawsSpec)

/-- ITS FALSE NEIGHBOUR: 'it returns false'. Refute it at one input. -/
def flatDrawsWrong : ChangeSpec := { name := "flatDraws", fn := fun _ => fun
  | [d1, d2, d3, d4] => { results := [.lit (.bool false)], args := [d1, d2, d3, d4] }
  | _ => none }
def FlatDrawsWrongFalsely : Prop := flatDrawsRow.holds Tryz.pinned (OpenSpec.ofChange flatDrawsWrong)

/- THE SECOND FORM. 'bulk': how many values and letters a reading holds, each counted each time it is reached (what is shared counts as often as it is met; a slice's spare places count too). A statement '..UptoSaid' is the law's where the arguments, and the package variables that the reading takes, are together of bulk at most 1048576: NARROWER than '..Said'. Prove '..Said' where nothing that the law and all that it calls make is longer than what came in: it says more and counts as full. Else prove '..UptoSaid'. A law counts once. -/
mutual
def uptoBulk {H : Type} : DataW H → Nat
  | .lit (.string bytes) => bytes.length + 1
  | .lit _ => 1
  | .nil => 1
  | .ptr d => uptoBulk d + 1
  | .slice elems spare => uptoBulkAll elems + uptoBulkAll spare + 1
  | .agg parts => uptoBulkAll parts + 1
  | .iface _ d => uptoBulk d + 1
  | .map entries => uptoBulkEntries entries + 1
  | .held _ => 1
def uptoBulkAll {H : Type} : List (DataW H) → Nat
  | [] => 0
  | d :: r => uptoBulk d + uptoBulkAll r
def uptoBulkEntries {H : Type} : List (Lit × DataW H) → Nat
  | [] => 0
  | x :: r => uptoBulkEntry x + uptoBulkEntries r
def uptoBulkEntry {H : Type} : Lit × DataW H → Nat
  | (.string bytes, d) => bytes.length + uptoBulk d + 1
  | (_, d) => uptoBulk d + 1
 end
def uptoSmall : (H : Type) → List (DataW H) → Bool := fun _ ds => decide (uptoBulkAll ds ≤ 1048576)
def OpenSpec.upto (s : _root_.Go.ChangeSpec) : _root_.Go.OpenSpec := { _root_.Go.OpenSpec.ofChange s with cond := some uptoSmall }

/-- 'tracerylaw13.FlatTries', WHERE WHAT IT READS IS OF BULK AT MOST 1048576: true; the input reads as it did. -/
def flatTriesUptoRow : OpenClaim := { program := "ytoiflofhcmjpoaagreat", sum := "90a0542f9ed0ec9b89c69c3624dea45c17b48fa1d43f1f02cbae6710307ebdc2", func := "tracery/tracerylaw13.FlatTries", spec := "flatTries", unfollowed := true, recurses := true, apart := false, narrowed := true }
def FlatTriesUptoSaid : Prop := flatTriesUptoRow.holds Tryz.pinned (OpenSpec.upto flatTriesSpec)

/-- 'tracerylaw13.FlatKnots', WHERE WHAT IT READS IS OF BULK AT MOST 1048576: true; the input reads as it did. -/
def flatKnotsUptoRow : OpenClaim := { program := "ytoiflofhcmjpoaagreat", sum := "90a0542f9ed0ec9b89c69c3624dea45c17b48fa1d43f1f02cbae6710307ebdc2", func := "tracery/tracerylaw13.FlatKnots", spec := "flatKnots", unfollowed := true, recurses := true, apart := false, narrowed := true }
def FlatKnotsUptoSaid : Prop := flatKnotsUptoRow.holds Tryz.pinned (OpenSpec.upto flatKnotsSpec)

/-- 'tracerylaw13.FlatKinds', WHERE WHAT IT READS IS OF BULK AT MOST 1048576: true; the input reads as it did. -/
def flatKindsUptoRow : OpenClaim := { program := "ytoiflofhcmjpoaagreat", sum := "90a0542f9ed0ec9b89c69c3624dea45c17b48fa1d43f1f02cbae6710307ebdc2", func := "tracery/tracerylaw13.FlatKinds", spec := "flatKinds", unfollowed := true, recurses := true, apart := false, narrowed := true }
def FlatKindsUptoSaid : Prop := flatKindsUptoRow.holds Tryz.pinned (OpenSpec.upto flatKindsSpec)

/-- 'tracerylaw12.DrawWays', WHERE WHAT IT READS IS OF BULK AT MOST 1048576: true; the input reads as it did. -/
def drawWaysUptoRow : OpenClaim := { program := "ytoiflofhcmjpoaagreat", sum := "90a0542f9ed0ec9b89c69c3624dea45c17b48fa1d43f1f02cbae6710307ebdc2", func := "tracery/tracerylaw12.DrawWays", spec := "drawWays", unfollowed := true, recurses := true, apart := false, narrowed := true }
def DrawWaysUptoSaid : Prop := drawWaysUptoRow.holds Tryz.pinned (OpenSpec.upto drawWaysSpec)

/-- 'tracerylaw12.DrawTries', WHERE WHAT IT READS IS OF BULK AT MOST 1048576: true; the input reads as it did. -/
def drawTriesUptoRow : OpenClaim := { program := "ytoiflofhcmjpoaagreat", sum := "90a0542f9ed0ec9b89c69c3624dea45c17b48fa1d43f1f02cbae6710307ebdc2", func := "tracery/tracerylaw12.DrawTries", spec := "drawTries", unfollowed := true, recurses := true, apart := false, narrowed := true }
def DrawTriesUptoSaid : Prop := drawTriesUptoRow.holds Tryz.pinned (OpenSpec.upto drawTriesSpec)

/-- 'tracerylaw13.FlatBlocks', WHERE WHAT IT READS IS OF BULK AT MOST 1048576: true; the input reads as it did. -/
def flatBlocksUptoRow : OpenClaim := { program := "ytoiflofhcmjpoaagreat", sum := "90a0542f9ed0ec9b89c69c3624dea45c17b48fa1d43f1f02cbae6710307ebdc2", func := "tracery/tracerylaw13.FlatBlocks", spec := "flatBlocks", unfollowed := true, recurses := true, apart := false, narrowed := true }
def FlatBlocksUptoSaid : Prop := flatBlocksUptoRow.holds Tryz.pinned (OpenSpec.upto flatBlocksSpec)

/-- 'tracerylaw13.FlatDraws', WHERE WHAT IT READS IS OF BULK AT MOST 1048576: true; the input reads as it did. -/
def flatDrawsUptoRow : OpenClaim := { program := "ytoiflofhcmjpoaagreat", sum := "90a0542f9ed0ec9b89c69c3624dea45c17b48fa1d43f1f02cbae6710307ebdc2", func := "tracery/tracerylaw13.FlatDraws", spec := "flatDraws", unfollowed := true, recurses := true, apart := false, narrowed := true }
def FlatDrawsUptoSaid : Prop := flatDrawsUptoRow.holds Tryz.pinned (OpenSpec.upto flatDrawsSpec)

end Rows
end Go.Proofs.YtoiflofhcmjpoaaGreat
