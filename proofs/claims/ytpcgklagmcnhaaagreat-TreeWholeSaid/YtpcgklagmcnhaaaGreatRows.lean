/-
  No cell of these rows narrows 'for every input' (looked for: loops, veiled, ifaces, maps, wideKeys, modest, calm, conditions, laid).
  DERIVED. THE GIVEN ROWS OF THIS SEAT. 4 by the template 'for every input the law returns true; each argument reads behind the call as it read before'; 0 by the template 'total and deterministic' (their statements: YtpcgklagmcnhaaaGreatTotals.lean).
  GIVEN WITH THE SEED: the statements are not yours to turn. If you find one false, say at which input.
  Laid BY PROGRAM, IN A SANDBOX (cutbox-rows.mjs): the forced cells as the released guide's own fill.sh prints them over the translation d87e199067ee9d85… (all of the seat's roots in one cut). By AI agents, Wed Nov 11 2026. No macro, syntax, notation, axiom, sorry.
-/
import Derived.Test.YtpcgklagmcnhaaaGreatChecked
import GoSem.Claim
import GoSem.ClaimJoined
import GoSem.ClaimMapViews
import Derived.JoinedTies
import Derived.KernelRfl
namespace Go.Proofs.YtpcgklagmcnhaaaGreat
/- THE CELL 'sum', in the pinned program and in every row, IS THE sha256 OF THE DUMP (.gsa) THAT YtpcgklagmcnhaaaGreatProg.lean LOADS. Nothing in Lean hashes anything: it is a label: what it is worth is what the hold of that sum in a sandbox is worth. -/
noncomputable def Tryz.pinned : Pinned := { name := "ytpcgklagmcnhaaagreat", sum := "d87e199067ee9d85c0477fc91082ea5ae9a4db9fa5ff74e697934ddc2bbaf3ef", checked := Tryz.checked }
namespace Rows
def none {H : Type} : Left H := { results := [], args := [] }

/-- 'tracerylaw15.TreeNil': WHATEVER THE INPUT: true; the input reads as it did. -/
def treeNilSpec : ChangeSpec := { name := "treeNil", fn := fun _ => fun
  | [d1, d2] => { results := [.lit (.bool true)], args := [d1, d2] }
  | _ => none }
def treeNilRow : OpenClaim := { program := "ytpcgklagmcnhaaagreat", sum := "d87e199067ee9d85c0477fc91082ea5ae9a4db9fa5ff74e697934ddc2bbaf3ef", func := "tracery/tracerylaw15.TreeNil", spec := "treeNil", unfollowed := true, recurses := true, apart := false }
def TreeNilSaid : Prop := treeNilRow.holds Tryz.pinned (OpenSpec.ofChange treeNilSpec)

/-- ITS FALSE NEIGHBOUR: 'it returns false'. Refute it at one input. -/
def treeNilWrong : ChangeSpec := { name := "treeNil", fn := fun _ => fun
  | [d1, d2] => { results := [.lit (.bool false)], args := [d1, d2] }
  | _ => none }
def TreeNilWrongFalsely : Prop := treeNilRow.holds Tryz.pinned (OpenSpec.ofChange treeNilWrong)

/-- 'tracerylaw15.TreeWhole': WHATEVER THE INPUT: true; the input reads as it did. -/
def treeWholeSpec : ChangeSpec := { name := "treeWhole", fn := fun _ => fun
  | [d1, d2] => { results := [.lit (.bool true)], args := [d1, d2] }
  | _ => none }
def treeWholeRow : OpenClaim := { program := "ytpcgklagmcnhaaagreat", sum := "d87e199067ee9d85c0477fc91082ea5ae9a4db9fa5ff74e697934ddc2bbaf3ef", func := "tracery/tracerylaw15.TreeWhole", spec := "treeWhole", unfollowed := true, recurses := true, apart := false }
def TreeWholeSaid : Prop := treeWholeRow.holds Tryz.pinned (OpenSpec.ofChange treeWholeSpec)

/-- ITS FALSE NEIGHBOUR: 'it returns false'. Refute it at one input. -/
def treeWholeWrong : ChangeSpec := { name := "treeWhole", fn := fun _ => fun
  | [d1, d2] => { results := [.lit (.bool false)], args := [d1, d2] }
  | _ => none }
def TreeWholeWrongFalsely : Prop := treeWholeRow.holds Tryz.pinned (OpenSpec.ofChange treeWholeWrong)

/-- 'tracerylaw15.TreeSides': WHATEVER THE INPUT: true; the input reads as it did. -/
def treeSidesSpec : ChangeSpec := { name := "treeSides", fn := fun _ => fun
  | [d1, d2] => { results := [.lit (.bool true)], args := [d1, d2] }
  | _ => none }
def treeSidesRow : OpenClaim := { program := "ytpcgklagmcnhaaagreat", sum := "d87e199067ee9d85c0477fc91082ea5ae9a4db9fa5ff74e697934ddc2bbaf3ef", func := "tracery/tracerylaw15.TreeSides", spec := "treeSides", unfollowed := true, recurses := true, apart := false }
def TreeSidesSaid : Prop := treeSidesRow.holds Tryz.pinned (OpenSpec.ofChange treeSidesSpec)

/-- ITS FALSE NEIGHBOUR: 'it returns false'. Refute it at one input. -/
def treeSidesWrong : ChangeSpec := { name := "treeSides", fn := fun _ => fun
  | [d1, d2] => { results := [.lit (.bool false)], args := [d1, d2] }
  | _ => none }
def TreeSidesWrongFalsely : Prop := treeSidesRow.holds Tryz.pinned (OpenSpec.ofChange treeSidesWrong)

/-- 'tracerylaw15.TreePlays': WHATEVER THE INPUT: true; the input reads as it did. -/
def treePlaysSpec : ChangeSpec := { name := "treePlays", fn := fun _ => fun
  | [d1, d2, d3, d4] => { results := [.lit (.bool true)], args := [d1, d2, d3, d4] }
  | _ => none }
def treePlaysRow : OpenClaim := { program := "ytpcgklagmcnhaaagreat", sum := "d87e199067ee9d85c0477fc91082ea5ae9a4db9fa5ff74e697934ddc2bbaf3ef", func := "tracery/tracerylaw15.TreePlays", spec := "treePlays", unfollowed := true, recurses := true, apart := false }
def TreePlaysSaid : Prop := treePlaysRow.holds Tryz.pinned (OpenSpec.ofChange treePlaysSpec)

/-- ITS FALSE NEIGHBOUR: 'it returns false'. Refute it at one input. -/
def treePlaysWrong : ChangeSpec := { name := "treePlays", fn := fun _ => fun
  | [d1, d2, d3, d4] => { results := [.lit (.bool false)], args := [d1, d2, d3, d4] }
  | _ => none }
def TreePlaysWrongFalsely : Prop := treePlaysRow.holds Tryz.pinned (OpenSpec.ofChange treePlaysWrong)

/- THE SECOND FORM. 'bulk': how many values and letters a reading holds, each counted each time it is reached (what is shared counts as often as it is met; a slice's spare places count too). A statement '..UptoSaid' is the law's where the arguments, and the package variables that the reading takes, are together of bulk at most 1048576: NARROWER than '..Said'. Prove '..Said' where nothing that the law and all that it calls make is longer than what came in: it says more and counts as full. Else prove '..UptoSaid'. A law counts once. -/
mutual
def uptoBulk {H : Type} : DataW H → Nat
  | .lit (.string bytes) => bytes.length + 1
  | .lit _ => 1
  | .nil => 1
  | .ptr d => uptoBulk d + 1
  | .slice elems spare => uptoBulkAll elems + uptoBulkAll spare + 1
  | .agg parts => uptoBulkAll parts + 1
  | .iface _ d => uptoBulk d + 1
  | .map entries => uptoBulkEntries entries + 1
  | .held _ => 1
def uptoBulkAll {H : Type} : List (DataW H) → Nat
  | [] => 0
  | d :: r => uptoBulk d + uptoBulkAll r
def uptoBulkEntries {H : Type} : List (Lit × DataW H) → Nat
  | [] => 0
  | x :: r => uptoBulkEntry x + uptoBulkEntries r
def uptoBulkEntry {H : Type} : Lit × DataW H → Nat
  | (.string bytes, d) => bytes.length + uptoBulk d + 1
  | (_, d) => uptoBulk d + 1
 end
def uptoSmall : (H : Type) → List (DataW H) → Bool := fun _ ds => decide (uptoBulkAll ds ≤ 1048576)
def OpenSpec.upto (s : _root_.Go.ChangeSpec) : _root_.Go.OpenSpec := { _root_.Go.OpenSpec.ofChange s with cond := some uptoSmall }

/-- 'tracerylaw15.TreeNil', WHERE WHAT IT READS IS OF BULK AT MOST 1048576: true; the input reads as it did. -/
def treeNilUptoRow : OpenClaim := { program := "ytpcgklagmcnhaaagreat", sum := "d87e199067ee9d85c0477fc91082ea5ae9a4db9fa5ff74e697934ddc2bbaf3ef", func := "tracery/tracerylaw15.TreeNil", spec := "treeNil", unfollowed := true, recurses := true, apart := false, narrowed := true }
def TreeNilUptoSaid : Prop := treeNilUptoRow.holds Tryz.pinned (OpenSpec.upto treeNilSpec)

/-- 'tracerylaw15.TreeWhole', WHERE WHAT IT READS IS OF BULK AT MOST 1048576: true; the input reads as it did. -/
def treeWholeUptoRow : OpenClaim := { program := "ytpcgklagmcnhaaagreat", sum := "d87e199067ee9d85c0477fc91082ea5ae9a4db9fa5ff74e697934ddc2bbaf3ef", func := "tracery/tracerylaw15.TreeWhole", spec := "treeWhole", unfollowed := true, recurses := true, apart := false, narrowed := true }
def TreeWholeUptoSaid : Prop := treeWholeUptoRow.holds Tryz.pinned (OpenSpec.upto treeWholeSpec)

/-- 'tracerylaw15.TreeSides', WHERE WHAT IT READS IS OF BULK AT MOST 1048576: true; the input reads as it did. -/
def treeSidesUptoRow : OpenClaim := { program := "ytpcgklagmcnhaaagreat", sum := "d87e199067ee9d85c0477fc91082ea5ae9a4db9fa5ff74e697934ddc2bbaf3ef", func := "tracery/tracerylaw15.TreeSides", spec := "treeSides", unfollowed := true, recurses := true, apart := false, narrowed := true }
def TreeSidesUptoSaid : Prop := treeSidesUptoRow.holds Tryz.pinned (OpenSpec.upto treeSidesSpec)

/-- 'tracerylaw15.TreePlays', WHERE WHAT IT READS IS OF BULK AT MOST 1048576: true; the input reads as it did. -/
def treePlaysUptoRow : OpenClaim := { program := "ytpcgklagmcnhaaagreat", sum := "d87e199067ee9d85c0477fc91082ea5ae9a4db9fa5ff74e697934ddc2bbaf3ef", func := "tracery/tracerylaw15.TreePlays", spec := "treePlays", unfollowed := true, recurses := true, apart := false, narrowed := true }
def TreePlaysUptoSaid : Prop := treePlaysUptoRow.holds Tryz.pinned (OpenSpec.upto treePlaysSpec)

end Rows
end Go.Proofs.YtpcgklagmcnhaaaGreat
