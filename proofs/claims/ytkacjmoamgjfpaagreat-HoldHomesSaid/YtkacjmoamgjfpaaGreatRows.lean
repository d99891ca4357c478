/-
  No cell of these rows narrows 'for every input' (looked for: loops, veiled, ifaces, maps, wideKeys, modest, calm, conditions, laid).
  DERIVED. THE GIVEN ROWS OF THIS SEAT. 8 by the template 'for every input the law returns true; each argument reads behind the call as it read before'; 0 by the template 'total and deterministic' (their statements: YtkacjmoamgjfpaaGreatTotals.lean).
  GIVEN WITH THE SEED: the statements are not yours to turn. If you find one false, say at which input.
  Laid BY PROGRAM, IN A SANDBOX (cutbox-rows.mjs): the forced cells as the released guide's own fill.sh prints them over the translation 70e39e4453771119… (all of the seat's roots in one cut). By AI agents, Wed Nov 11 2026. No macro, syntax, notation, axiom, sorry.
-/
import Derived.Test.YtkacjmoamgjfpaaGreatChecked
import GoSem.Claim
import GoSem.ClaimJoined
import GoSem.ClaimMapViews
import Derived.JoinedTies
import Derived.KernelRfl
namespace Go.Proofs.YtkacjmoamgjfpaaGreat
/- THE CELL 'sum', in the pinned program and in every row, IS THE sha256 OF THE DUMP (.gsa) THAT YtkacjmoamgjfpaaGreatProg.lean LOADS. Nothing in Lean hashes anything: it is a label: what it is worth is what the hold of that sum in a sandbox is worth. -/
noncomputable def Tryz.pinned : Pinned := { name := "ytkacjmoamgjfpaagreat", sum := "70e39e4453771119cb892183f8b171fd77209277de253a96fea6c69680518935", checked := Tryz.checked }
namespace Rows
def none {H : Type} : Left H := { results := [], args := [] }

/-- 'tracerylaw17.HoldFree': WHATEVER THE INPUT: true; the input reads as it did. -/
def holdFreeSpec : ChangeSpec := { name := "holdFree", fn := fun _ => fun
  | [d] => { results := [.lit (.bool true)], args := [d] }
  | _ => none }
def holdFreeRow : OpenClaim := { program := "ytkacjmoamgjfpaagreat", sum := "70e39e4453771119cb892183f8b171fd77209277de253a96fea6c69680518935", func := "tracery/tracerylaw17.HoldFree", spec := "holdFree", unfollowed := true, recurses := true, apart := false }
def HoldFreeSaid : Prop := holdFreeRow.holds Tryz.pinned (OpenSpec.ofChange holdFreeSpec)

/-- ITS FALSE NEIGHBOUR: 'it returns false'. Refute it at one input. -/
def holdFreeWrong : ChangeSpec := { name := "holdFree", fn := fun _ => fun
  | [d] => { results := [.lit (.bool false)], args := [d] }
  | _ => none }
def HoldFreeWrongFalsely : Prop := holdFreeRow.holds Tryz.pinned (OpenSpec.ofChange holdFreeWrong)

/-- 'tracerylaw17.HoldPlays': WHATEVER THE INPUT: true; the input reads as it did. -/
def holdPlaysSpec : ChangeSpec := { name := "holdPlays", fn := fun _ => fun
  | [d1, d2] => { results := [.lit (.bool true)], args := [d1, d2] }
  | _ => none }
def holdPlaysRow : OpenClaim := { program := "ytkacjmoamgjfpaagreat", sum := "70e39e4453771119cb892183f8b171fd77209277de253a96fea6c69680518935", func := "tracery/tracerylaw17.HoldPlays", spec := "holdPlays", unfollowed := true, recurses := true, apart := false }
def HoldPlaysSaid : Prop := holdPlaysRow.holds Tryz.pinned (OpenSpec.ofChange holdPlaysSpec)

/-- ITS FALSE NEIGHBOUR: 'it returns false'. Refute it at one input. -/
def holdPlaysWrong : ChangeSpec := { name := "holdPlays", fn := fun _ => fun
  | [d1, d2] => { results := [.lit (.bool false)], args := [d1, d2] }
  | _ => none }
def HoldPlaysWrongFalsely : Prop := holdPlaysRow.holds Tryz.pinned (OpenSpec.ofChange holdPlaysWrong)

/-- 'tracerylaw17.HoldAgain': WHATEVER THE INPUT: true; the input reads as it did. -/
def holdAgainSpec : ChangeSpec := { name := "holdAgain", fn := fun _ => fun
  | [d1, d2, d3] => { results := [.lit (.bool true)], args := [d1, d2, d3] }
  | _ => none }
def holdAgainRow : OpenClaim := { program := "ytkacjmoamgjfpaagreat", sum := "70e39e4453771119cb892183f8b171fd77209277de253a96fea6c69680518935", func := "tracery/tracerylaw17.HoldAgain", spec := "holdAgain", unfollowed := true, recurses := true, apart := false }
def HoldAgainSaid : Prop := holdAgainRow.holds Tryz.pinned (OpenSpec.ofChange holdAgainSpec)

/-- ITS FALSE NEIGHBOUR: 'it returns false'. Refute it at one input. -/
def holdAgainWrong : ChangeSpec := { name := "holdAgain", fn := fun _ => fun
  | [d1, d2, d3] => { results := [.lit (.bool false)], args := [d1, d2, d3] }
  | _ => none }
def HoldAgainWrongFalsely : Prop := holdAgainRow.holds Tryz.pinned (OpenSpec.ofChange holdAgainWrong)

/-- 'tracerylaw17.HoldAdds': WHATEVER THE INPUT: true; the input reads as it did. -/
def holdAddsSpec : ChangeSpec := { name := "holdAdds", fn := fun _ => fun
  | [d1, d2, d3] => { results := [.lit (.bool true)], args := [d1, d2, d3] }
  | _ => none }
def holdAddsRow : OpenClaim := { program := "ytkacjmoamgjfpaagreat", sum := "70e39e4453771119cb892183f8b171fd77209277de253a96fea6c69680518935", func := "tracery/tracerylaw17.HoldAdds", spec := "holdAdds", unfollowed := true, recurses := true, apart := false }
def HoldAddsSaid : Prop := holdAddsRow.holds Tryz.pinned (OpenSpec.ofChange holdAddsSpec)

/-- ITS FALSE NEIGHBOUR: 'it returns false'. Refute it at one input. -/
def holdAddsWrong : ChangeSpec := { name := "holdAdds", fn := fun _ => fun
  | [d1, d2, d3] => { results := [.lit (.bool false)], args := [d1, d2, d3] }
  | _ => none }
def HoldAddsWrongFalsely : Prop := holdAddsRow.holds Tryz.pinned (OpenSpec.ofChange holdAddsWrong)

/-- 'tracerylaw17.HoldHomes': WHATEVER THE INPUT: true; the input reads as it did. -/
def holdHomesSpec : ChangeSpec := { name := "holdHomes", fn := fun _ => fun
  | [d1, d2, d3] => { results := [.lit (.bool true)], args := [d1, d2, d3] }
  | _ => none }
def holdHomesRow : OpenClaim := { program := "ytkacjmoamgjfpaagreat", sum := "70e39e4453771119cb892183f8b171fd77209277de253a96fea6c69680518935", func := "tracery/tracerylaw17.HoldHomes", spec := "holdHomes", unfollowed := true, recurses := true, apart := false }
def HoldHomesSaid : Prop := holdHomesRow.holds Tryz.pinned (OpenSpec.ofChange holdHomesSpec)

/-- ITS FALSE NEIGHBOUR: 'it returns false'. Refute it at one input. -/
def holdHomesWrong : ChangeSpec := { name := "holdHomes", fn := fun _ => fun
  | [d1, d2, d3] => { results := [.lit (.bool false)], args := [d1, d2, d3] }
  | _ => none }
def HoldHomesWrongFalsely : Prop := holdHomesRow.holds Tryz.pinned (OpenSpec.ofChange holdHomesWrong)

/-- 'tracerylaw12.DrawSphere': WHATEVER THE INPUT: true; the input reads as it did. -/
def drawSphereSpec : ChangeSpec := { name := "drawSphere", fn := fun _ => fun
  | [d1, d2] => { results := [.lit (.bool true)], args := [d1, d2] }
  | _ => none }
def drawSphereRow : OpenClaim := { program := "ytkacjmoamgjfpaagreat", sum := "70e39e4453771119cb892183f8b171fd77209277de253a96fea6c69680518935", func := "tracery/tracerylaw12.DrawSphere", spec := "drawSphere", unfollowed := true, recurses := true, apart := false }
def DrawSphereSaid : Prop := drawSphereRow.holds Tryz.pinned (OpenSpec.ofChange drawSphereSpec)

/-- ITS FALSE NEIGHBOUR: 'it returns false'. Refute it at one input. -/
def drawSphereWrong : ChangeSpec := { name := "drawSphere", fn := fun _ => fun
  | [d1, d2] => { results := [.lit (.bool false)], args := [d1, d2] }
  | _ => none }
def DrawSphereWrongFalsely : Prop := drawSphereRow.holds Tryz.pinned (OpenSpec.ofChange drawSphereWrong)

/-- 'tracerylaw12.DrawWays': WHATEVER THE INPUT: true; the input reads as it did. -/
def drawWaysSpec : ChangeSpec := { name := "drawWays", fn := fun _ => fun
  | [d1, d2] => { results := [.lit (.bool true)], args := [d1, d2] }
  | _ => none }
def drawWaysRow : OpenClaim := { program := "ytkacjmoamgjfpaagreat", sum := "70e39e4453771119cb892183f8b171fd77209277de253a96fea6c69680518935", func := "tracery/tracerylaw12.DrawWays", spec := "drawWays", unfollowed := true, recurses := true, apart := false }
def DrawWaysSaid : Prop := drawWaysRow.holds Tryz.pinned (OpenSpec.ofChange drawWaysSpec)

/-- ITS FALSE NEIGHBOUR: 'it returns false'. Refute it at one input. -/
def drawWaysWrong : ChangeSpec := { name := "drawWays", fn := fun _ => fun
  | [d1, d2] => { results := [.lit (.bool false)], args := [d1, d2] }
  | _ => none }
def DrawWaysWrongFalsely : Prop := drawWaysRow.holds Tryz.pinned (OpenSpec.ofChange drawWaysWrong)

/-- 'tracerylaw13.FlatBlocks': WHATEVER THE INPUT: true; the input reads as it did. -/
def flatBlocksSpec : ChangeSpec := { name := "flatBlocks", fn := fun _ => fun
  | [d1, d2] => { results := [.lit (.bool true)], args := [d1, d2] }
  | _ => none }
def flatBlocksRow : OpenClaim := { program := "ytkacjmoamgjfpaagreat", sum := "70e39e4453771119cb892183f8b171fd77209277de253a96fea6c69680518935", func := "tracery/tracerylaw13.FlatBlocks", spec := "flatBlocks", unfollowed := true, recurses := true, apart := false }
def FlatBlocksSaid : Prop := flatBlocksRow.holds Tryz.pinned (OpenSpec.ofChange flatBlocksSpec)

/-- ITS FALSE NEIGHBOUR: 'it returns false'. Refute it at one input. -/
def flatBlocksWrong : ChangeSpec := { name := "flatBlocks", fn := fun _ => fun
  | [d1, d2] => { results := [.lit (.bool false)], args := [d1, d2] }
  | _ => none }
def FlatBlocksWrongFalsely : Prop := flatBlocksRow.holds Tryz.pinned (OpenSpec.ofChange flatBlocksWrong)

/- THE SECOND FORM. 'bulk': how many values and letters a reading holds, each counted each time it is reached (what is shared counts as often as it is met; a slice's spare places count too). A statement '..UptoSaid' is the law's where the arguments, and the package variables that the reading takes, are together of bulk at most 1048576: NARROWER than '..Said'. Prove '..Said' where nothing that the law and all that it calls make is longer than what came in: it says more and counts as full. Else prove '..UptoSaid'. A law counts once. -/
mutual
def uptoBulk {H : Type} : DataW H → Nat
  | .lit (.string bytes) => bytes.length + 1
  | .lit _ => 1
  | .nil => 1
  | .ptr d => uptoBulk d + 1
  | .slice elems spare => uptoBulkAll elems + uptoBulkAll spare + 1
  | .agg parts => uptoBulkAll parts + 1
  | .iface _ d => uptoBulk d + 1
  | .map entries => uptoBulkEntries entries + 1
  | .held _ => 1
def uptoBulkAll {H : Type} : List (DataW H) → Nat
  | [] => 0
  | d :: r => uptoBulk d + uptoBulkAll r
def uptoBulkEntries {H : Type} : List (Lit × DataW H) → Nat
  | [] => 0
  | x :: r => uptoBulkEntry x + uptoBulkEntries r
def uptoBulkEntry {H : Type} : Lit × DataW H → Nat
  | (.string bytes, d) => bytes.length + uptoBulk d + 1
  | (_, d) => uptoBulk d + 1
 end
def uptoSmall : (H : Type) → List (DataW H) → Bool := fun _ ds => decide (uptoBulkAll ds ≤ 1048576)
def OpenSpec.upto (s : _root_.Go.ChangeSpec) : _root_.Go.OpenSpec := { _root_.Go.OpenSpec.ofChange s with cond := some uptoSmall }

/-- 'tracerylaw17.HoldFree', WHERE WHAT IT READS IS OF BULK AT MOST 1048576: true; the input reads as it did. -/
def holdFreeUptoRow : OpenClaim := { program := "ytkacjmoamgjfpaagreat", sum := "70e39e4453771119cb892183f8b171fd77209277de253a96fea6c69680518935", func := "tracery/tracerylaw17.HoldFree", spec := "holdFree", unfollowed := true, recurses := true, apart := false, narrowed := true }
def HoldFreeUptoSaid : Prop := holdFreeUptoRow.holds Tryz.pinned (OpenSpec.upto holdFreeSpec)

/-- 'tracerylaw17.HoldPlays', WHERE WHAT IT READS IS OF BULK AT MOST 1048576: true; the input reads as it did. -/
def holdPlaysUptoRow : OpenClaim := { program := "ytkacjmoamgjfpaagreat", sum := "70e39e4453771119cb892183f8b171fd77209277de253a96fea6c69680518935", func := "tracery/tracerylaw17.HoldPlays", spec := "holdPlays", unfollowed := true, recurses := true, apart := false, narrowed := true }
def HoldPlaysUptoSaid : Prop := holdPlaysUptoRow.holds Tryz.pinned (OpenSpec.upto holdPlaysSpec)

/-- 'tracerylaw17.HoldAgain', WHERE WHAT IT READS IS OF BULK AT MOST 1048576: true; the input reads as it did. -/
def holdAgainUptoRow : OpenClaim := { program := "ytkacjmoamgjfpaagreat", sum := "70e39e4453771119cb892183f8b171fd77209277de253a96fea6c69680518935", func := "tracery/tracerylaw17.HoldAgain", spec := "holdAgain", unfollowed := true, recurses := true, apart := false, narrowed := true }
def HoldAgainUptoSaid : Prop := holdAgainUptoRow.holds Tryz.pinned (OpenSpec.upto holdAgainSpec)

/-- 'tracerylaw17.HoldAdds', WHERE WHAT IT READS IS OF BULK AT MOST 1048576: true; the input reads as it did. -/
def holdAddsUptoRow : OpenClaim := { program := "ytkacjmoamgjfpaagreat", sum := "70e39e4453771119cb892183f8b171fd77209277de253a96fea6c69680518935", func := "tracery/tracerylaw17.HoldAdds", spec := "holdAdds", unfollowed := true, recurses := true, apart := false, narrowed := true }
def HoldAddsUptoSaid : Prop := holdAddsUptoRow.holds Tryz.pinned (OpenSpec.upto holdAddsSpec)

/-- 'tracerylaw17.HoldHomes', WHERE WHAT IT READS IS OF BULK AT MOST 1048576: true; the input reads as it did. -/
def holdHomesUptoRow : OpenClaim := { program := "ytkacjmoamgjfpaagreat", sum := "70e39e4453771119cb892183f8b171fd77209277de253a96fea6c69680518935", func := "tracery/tracerylaw17.HoldHomes", spec := "holdHomes", unfollowed := true, recurses := true, apart := false, narrowed := true }
def HoldHomesUptoSaid : Prop := holdHomesUptoRow.holds Tryz.pinned (OpenSpec.upto holdHomesSpec)

/-- 'tracerylaw12.DrawSphere', WHERE WHAT IT READS IS OF BULK AT MOST 1048576: true; the input reads as it did. -/
def drawSphereUptoRow : OpenClaim := { program := "ytkacjmoamgjfpaagreat", sum := "70e39e4453771119cb892183f8b171fd77209277de253a96fea6c69680518935", func := "tracery/tracerylaw12.DrawSphere", spec := "drawSphere", unfollowed := true, recurses := true, apart := false, narrowed := true }
def DrawSphereUptoSaid : Prop := drawSphereUptoRow.holds Tryz.pinned (OpenSpec.upto drawSphereSpec)

/-- 'tracerylaw12.DrawWays', WHERE WHAT IT READS IS OF BULK AT MOST 1048576: true; the input reads as it did. -/
def drawWaysUptoRow : OpenClaim := { program := "ytkacjmoamgjfpaagreat", sum := "70e39e4453771119cb892183f8b171fd77209277de253a96fea6c69680518935", func := "tracery/tracerylaw12.DrawWays", spec := "drawWays", unfollowed := true, recurses := true, apart := false, narrowed := true }
def DrawWaysUptoSaid : Prop := drawWaysUptoRow.holds Tryz.pinned (OpenSpec.upto drawWaysSpec)

/-- 'tracerylaw13.FlatBlocks', WHERE WHAT IT READS IS OF BULK AT MOST 1048576: true; the input reads as it did. -/
def flatBlocksUptoRow : OpenClaim := { program := "ytkacjmoamgjfpaagreat", sum := "70e39e4453771119cb892183f8b171fd77209277de253a96fea6c69680518935", func := "tracery/tracerylaw13.FlatBlocks", spec := "flatBlocks", unfollowed := true, recurses := true, apart := false, narrowed := true }
def FlatBlocksUptoSaid : Prop := flatBlocksUptoRow.holds Tryz.pinned (OpenSpec.upto flatBlocksSpec)

end Rows
end Go.Proofs.YtkacjmoamgjfpaaGreat
