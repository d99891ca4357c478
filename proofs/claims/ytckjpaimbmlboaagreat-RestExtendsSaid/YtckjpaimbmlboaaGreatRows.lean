/-
  No cell of these rows narrows 'for every input' (looked for: loops, veiled, ifaces, maps, wideKeys, modest, calm, conditions, laid).
  DERIVED. THE GIVEN ROWS OF THIS SEAT. 4 by the template 'for every input the law returns true; each argument reads behind the call as it read before'; 0 by the template 'total and deterministic' (their statements: YtckjpaimbmlboaaGreatTotals.lean).
  GIVEN WITH THE SEED: the statements are not yours to turn. If you find one false, say at which input.
  Laid BY PROGRAM, IN A SANDBOX (cutbox-rows.mjs): the forced cells as the released guide's own fill.sh prints them over the translation e2fa93f57264704a… (all of the seat's roots in one cut). By AI agents, Wed Nov 11 2026. No macro, syntax, notation, axiom, sorry.
-/
import Derived.Test.YtckjpaimbmlboaaGreatChecked
import GoSem.Claim
import GoSem.ClaimJoined
import GoSem.ClaimMapViews
import Derived.JoinedTies
import Derived.KernelRfl
namespace Go.Proofs.YtckjpaimbmlboaaGreat
/- THE CELL 'sum', in the pinned program and in every row, IS THE sha256 OF THE DUMP (.gsa) THAT YtckjpaimbmlboaaGreatProg.lean LOADS. Nothing in Lean hashes anything: it is a label: what it is worth is what the hold of that sum in a sandbox is worth. -/
noncomputable def Tryz.pinned : Pinned := { name := "ytckjpaimbmlboaagreat", sum := "e2fa93f57264704a4f110a623bf8498ee113d6d8a1d16083fea6d39b817c7e4e", checked := Tryz.checked }
namespace Rows
def none {H : Type} : Left H := { results := [], args := [] }

/-- 'tracerylaw09.RestPlays': WHATEVER THE INPUT: true; the input reads as it did. -/
def restPlaysSpec : ChangeSpec := { name := "restPlays", fn := fun _ => fun
  | [d1, d2, d3, d4] => { results := [.lit (.bool true)], args := [d1, d2, d3, d4] }
  | _ => none }
def restPlaysRow : OpenClaim := { program := "ytckjpaimbmlboaagreat", sum := "e2fa93f57264704a4f110a623bf8498ee113d6d8a1d16083fea6d39b817c7e4e", func := "tracery/tracerylaw09.RestPlays", spec := "restPlays", unfollowed := true, recurses := true, apart := false }
def RestPlaysSaid : Prop := restPlaysRow.holds Tryz.pinned (OpenSpec.ofChange restPlaysSpec)

/-- ITS FALSE NEIGHBOUR: 'it returns false'. Refute it at one input. -/
def restPlaysWrong : ChangeSpec := { name := "restPlays", fn := fun _ => fun
  | [d1, d2, d3, d4] => { results := [.lit (.bool false)], args := [d1, d2, d3, d4] }
  | _ => none }
def RestPlaysWrongFalsely : Prop := restPlaysRow.holds Tryz.pinned (OpenSpec.ofChange restPlaysWrong)

/-- 'tracerylaw09.RestExtends': WHATEVER THE INPUT: true; the input reads as it did. -/
def restExtendsSpec : ChangeSpec := { name := "restExtends", fn := fun _ => fun
  | [d1, d2, d3, d4, d5] => { results := [.lit (.bool true)], args := [d1, d2, d3, d4, d5] }
  | _ => none }
def restExtendsRow : OpenClaim := { program := "ytckjpaimbmlboaagreat", sum := "e2fa93f57264704a4f110a623bf8498ee113d6d8a1d16083fea6d39b817c7e4e", func := "tracery/tracerylaw09.RestExtends", spec := "restExtends", unfollowed := true, recurses := true, apart := false }
def RestExtendsSaid : Prop := restExtendsRow.holds Tryz.pinned (OpenSpec.ofChange restExtendsSpec)

/-- ITS FALSE NEIGHBOUR: 'it returns false'. Refute it at one input. -/
def restExtendsWrong : ChangeSpec := { name := "restExtends", fn := fun _ => fun
  | [d1, d2, d3, d4, d5] => { results := [.lit (.bool false)], args := [d1, d2, d3, d4, d5] }
  | _ => none }
def RestExtendsWrongFalsely : Prop := restExtendsRow.holds Tryz.pinned (OpenSpec.ofChange restExtendsWrong)

/-- 'tracerylaw09.RestAround': WHATEVER THE INPUT: true; the input reads as it did. -/
def restAroundSpec : ChangeSpec := { name := "restAround", fn := fun _ => fun
  | [d1, d2, d3, d4] => { results := [.lit (.bool true)], args := [d1, d2, d3, d4] }
  | _ => none }
def restAroundRow : OpenClaim := { program := "ytckjpaimbmlboaagreat", sum := "e2fa93f57264704a4f110a623bf8498ee113d6d8a1d16083fea6d39b817c7e4e", func := "tracery/tracerylaw09.RestAround", spec := "restAround", unfollowed := true, recurses := true, apart := false }
def RestAroundSaid : Prop := restAroundRow.holds Tryz.pinned (OpenSpec.ofChange restAroundSpec)

/-- ITS FALSE NEIGHBOUR: 'it returns false'. Refute it at one input. -/
def restAroundWrong : ChangeSpec := { name := "restAround", fn := fun _ => fun
  | [d1, d2, d3, d4] => { results := [.lit (.bool false)], args := [d1, d2, d3, d4] }
  | _ => none }
def RestAroundWrongFalsely : Prop := restAroundRow.holds Tryz.pinned (OpenSpec.ofChange restAroundWrong)

/-- 'tracerylaw08.PlanMirrors': WHATEVER THE INPUT: true; the input reads as it did. -/
def planMirrorsSpec : ChangeSpec := { name := "planMirrors", fn := fun _ => fun
  | [d1, d2, d3] => { results := [.lit (.bool true)], args := [d1, d2, d3] }
  | _ => none }
def planMirrorsRow : OpenClaim := { program := "ytckjpaimbmlboaagreat", sum := "e2fa93f57264704a4f110a623bf8498ee113d6d8a1d16083fea6d39b817c7e4e", func := "tracery/tracerylaw08.PlanMirrors", spec := "planMirrors", unfollowed := true, recurses := true, apart := false }
def PlanMirrorsSaid : Prop := planMirrorsRow.holds Tryz.pinned (OpenSpec.ofChange planMirrorsSpec)

/-- ITS FALSE NEIGHBOUR: 'it returns false'. Refute it at one input. -/
def planMirrorsWrong : ChangeSpec := { name := "planMirrors", fn := fun _ => fun
  | [d1, d2, d3] => { results := [.lit (.bool false)], args := [d1, d2, d3] }
  | _ => none }
def PlanMirrorsWrongFalsely : Prop := planMirrorsRow.holds Tryz.pinned (OpenSpec.ofChange planMirrorsWrong)

/- THE SECOND FORM. 'bulk': how many values and letters a reading holds, each counted each time it is reached (what is shared counts as often as it is met; a slice's spare places count too). A statement '..UptoSaid' is the law's where the arguments, and the package variables that the reading takes, are together of bulk at most 1048576: NARROWER than '..Said'. Prove '..Said' where nothing that the law and all that it calls make is longer than what came in: it says more and counts as full. Else prove '..UptoSaid'. A law counts once. -/
mutual
def uptoBulk {H : Type} : DataW H → Nat
  | .lit (.string bytes) => bytes.length + 1
  | .lit _ => 1
  | .nil => 1
  | .ptr d => uptoBulk d + 1
  | .slice elems spare => uptoBulkAll elems + uptoBulkAll spare + 1
  | .agg parts => uptoBulkAll parts + 1
  | .iface _ d => uptoBulk d + 1
  | .map entries => uptoBulkEntries entries + 1
  | .held _ => 1
def uptoBulkAll {H : Type} : List (DataW H) → Nat
  | [] => 0
  | d :: r => uptoBulk d + uptoBulkAll r
def uptoBulkEntries {H : Type} : List (Lit × DataW H) → Nat
  | [] => 0
  | x :: r => uptoBulkEntry x + uptoBulkEntries r
def uptoBulkEntry {H : Type} : Lit × DataW H → Nat
  | (.string bytes, d) => bytes.length + uptoBulk d + 1
  | (_, d) => uptoBulk d + 1
 end
def uptoSmall : (H : Type) → List (DataW H) → Bool := fun _ ds => decide (uptoBulkAll ds ≤ 1048576)
def OpenSpec.upto (s : _root_.Go.ChangeSpec) : _root_.Go.OpenSpec := { _root_.Go.OpenSpec.ofChange s with cond := some uptoSmall }

/-- 'tracerylaw09.RestPlays', WHERE WHAT IT READS IS OF BULK AT MOST 1048576: true; the input reads as it did. -/
def restPlaysUptoRow : OpenClaim := { program := "ytckjpaimbmlboaagreat", sum := "e2fa93f57264704a4f110a623bf8498ee113d6d8a1d16083fea6d39b817c7e4e", func := "tracery/tracerylaw09.RestPlays", spec := "restPlays", unfollowed := true, recurses := true, apart := false, narrowed := true }
def RestPlaysUptoSaid : Prop := restPlaysUptoRow.holds Tryz.pinned (OpenSpec.upto restPlaysSpec)

/-- 'tracerylaw09.RestExtends', WHERE WHAT IT READS IS OF BULK AT MOST 1048576: true; the input reads as it did. -/
def restExtendsUptoRow : OpenClaim := { program := "ytckjpaimbmlboaagreat", sum := "e2fa93f57264704a4f110a623bf8498ee113d6d8a1d16083fea6d39b817c7e4e", func := "tracery/tracerylaw09.RestExtends", spec := "restExtends", unfollowed := true, recurses := true, apart := false, narrowed := true }
def RestExtendsUptoSaid : Prop := restExtendsUptoRow.holds Tryz.pinned (OpenSpec.upto restExtendsSpec)

/-- 'tracerylaw09.RestAround', WHERE WHAT IT READS IS OF BULK AT MOST 1048576: true; the input reads as it did. -/
def restAroundUptoRow : OpenClaim := { program := "ytckjpaimbmlboaagreat", sum := "e2fa93f57264704a4f110a623bf8498ee113d6d8a1d16083fea6d39b817c7e4e", func := "tracery/tracerylaw09.RestAround", spec := "restAround", unfollowed := true, recurses := true, apart := false, narrowed := true }
def RestAroundUptoSaid : Prop := restAroundUptoRow.holds Tryz.pinned (OpenSpec.upto restAroundSpec)

/-- 'tracerylaw08.PlanMirrors', WHERE WHAT IT READS IS OF BULK AT MOST 1048576: true; the input reads as it did. -/
def planMirrorsUptoRow : OpenClaim := { program := "ytckjpaimbmlboaagreat", sum := "e2fa93f57264704a4f110a623bf8498ee113d6d8a1d16083fea6d39b817c7e4e", func := "tracery/tracerylaw08.PlanMirrors", spec := "planMirrors", unfollowed := true, recurses := true, apart := false, narrowed := true }
def PlanMirrorsUptoSaid : Prop := planMirrorsUptoRow.holds Tryz.pinned (OpenSpec.upto planMirrorsSpec)

end Rows
end Go.Proofs.YtckjpaimbmlboaaGreat
