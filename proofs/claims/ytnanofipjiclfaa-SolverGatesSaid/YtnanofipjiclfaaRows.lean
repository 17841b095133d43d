/-
  No cell of these rows narrows 'for every input' (looked for: loops, veiled, ifaces, maps, wideKeys, modest, calm, conditions, laid).
  DERIVED. THE GIVEN ROWS OF THIS SEAT. 6 by the template 'for every input the law returns true; each argument reads behind the call as it read before'; 0 by the template 'total and deterministic' (their statements: YtnanofipjiclfaaTotals.lean).
  GIVEN WITH THE SEED: the statements are not yours to turn. If you find one false, say at which input.
  Laid BY PROGRAM, IN A SANDBOX (cutbox-rows.mjs): the forced cells as the released guide's own fill.sh prints them over the translation c56f9e1c4b182ac7… (all of the seat's roots in one cut). By AI agents, Wed Nov 11 2026. No macro, syntax, notation, axiom, sorry.
-/
import Derived.Test.YtnanofipjiclfaaChecked
import GoSem.Claim
import GoSem.ClaimJoined
import GoSem.ClaimMapViews
import Derived.JoinedTies
import Derived.KernelRfl
namespace Go.Proofs.Ytnanofipjiclfaa
/- THE CELL 'sum', in the pinned program and in every row, IS THE sha256 OF THE DUMP (.gsa) THAT YtnanofipjiclfaaProg.lean LOADS. Nothing in Lean hashes anything: it is a label: what it is worth is what the hold of that sum in a sandbox is worth. -/
noncomputable def Try.pinned : Pinned := { name := "ytnanofipjiclfaa", sum := "c56f9e1c4b182ac76f470958034e20547d8a8f9f2c4df9d275de9de8e2725273", checked := Try.checked }
namespace Rows
def none {H : Type} : Left H := { results := [], args := [] }

/-- 'relyguardlaw24.SolverRefutations': WHATEVER THE INPUT: true; the input reads as it did. -/
def solverRefutationsSpec : ChangeSpec := { name := "solverRefutations", fn := fun _ => fun
  | [d1, d2] => { results := [.lit (.bool true)], args := [d1, d2] }
  | _ => none }
def solverRefutationsRow : OpenClaim := { program := "ytnanofipjiclfaa", sum := "c56f9e1c4b182ac76f470958034e20547d8a8f9f2c4df9d275de9de8e2725273", func := "relyguard/relyguardlaw24.SolverRefutations", spec := "solverRefutations", unfollowed := true, recurses := true, apart := false }
def SolverRefutationsSaid : Prop := solverRefutationsRow.holds Try.pinned (OpenSpec.ofChange solverRefutationsSpec)

/-- ITS FALSE NEIGHBOUR: 'it returns false'. Refute it at one input. -/
def solverRefutationsWrong : ChangeSpec := { name := "solverRefutations", fn := fun _ => fun
  | [d1, d2] => { results := [.lit (.bool false)], args := [d1, d2] }
  | _ => none }
def SolverRefutationsWrongFalsely : Prop := solverRefutationsRow.holds Try.pinned (OpenSpec.ofChange solverRefutationsWrong)

/-- 'relyguardlaw24.SolverIncrements': WHATEVER THE INPUT: true; the input reads as it did. -/
def solverIncrementsSpec : ChangeSpec := { name := "solverIncrements", fn := fun _ => fun
  | [d1, d2, d3] => { results := [.lit (.bool true)], args := [d1, d2, d3] }
  | _ => none }
def solverIncrementsRow : OpenClaim := { program := "ytnanofipjiclfaa", sum := "c56f9e1c4b182ac76f470958034e20547d8a8f9f2c4df9d275de9de8e2725273", func := "relyguard/relyguardlaw24.SolverIncrements", spec := "solverIncrements", unfollowed := true, recurses := true, apart := false }
def SolverIncrementsSaid : Prop := solverIncrementsRow.holds Try.pinned (OpenSpec.ofChange solverIncrementsSpec)

/-- ITS FALSE NEIGHBOUR: 'it returns false'. Refute it at one input. -/
def solverIncrementsWrong : ChangeSpec := { name := "solverIncrements", fn := fun _ => fun
  | [d1, d2, d3] => { results := [.lit (.bool false)], args := [d1, d2, d3] }
  | _ => none }
def SolverIncrementsWrongFalsely : Prop := solverIncrementsRow.holds Try.pinned (OpenSpec.ofChange solverIncrementsWrong)

/-- 'relyguardlaw24.SolverNames': WHATEVER THE INPUT: true; the input reads as it did. -/
def solverNamesSpec : ChangeSpec := { name := "solverNames", fn := fun _ => fun
  | [d1, d2, d3, d4, d5] => { results := [.lit (.bool true)], args := [d1, d2, d3, d4, d5] }
  | _ => none }
def solverNamesRow : OpenClaim := { program := "ytnanofipjiclfaa", sum := "c56f9e1c4b182ac76f470958034e20547d8a8f9f2c4df9d275de9de8e2725273", func := "relyguard/relyguardlaw24.SolverNames", spec := "solverNames", unfollowed := true, recurses := true, apart := false }
def SolverNamesSaid : Prop := solverNamesRow.holds Try.pinned (OpenSpec.ofChange solverNamesSpec)

/-- ITS FALSE NEIGHBOUR: 'it returns false'. Refute it at one input. -/
def solverNamesWrong : ChangeSpec := { name := "solverNames", fn := fun _ => fun
  | [d1, d2, d3, d4, d5] => { results := [.lit (.bool false)], args := [d1, d2, d3, d4, d5] }
  | _ => none }
def SolverNamesWrongFalsely : Prop := solverNamesRow.holds Try.pinned (OpenSpec.ofChange solverNamesWrong)

/-- 'relyguardlaw24.SolverPigeons': WHATEVER THE INPUT: true; the input reads as it did. -/
def solverPigeonsSpec : ChangeSpec := { name := "solverPigeons", fn := fun _ => fun
  | [d] => { results := [.lit (.bool true)], args := [d] }
  | _ => none }
def solverPigeonsRow : OpenClaim := { program := "ytnanofipjiclfaa", sum := "c56f9e1c4b182ac76f470958034e20547d8a8f9f2c4df9d275de9de8e2725273", func := "relyguard/relyguardlaw24.SolverPigeons", spec := "solverPigeons", unfollowed := true, recurses := true, apart := false }
def SolverPigeonsSaid : Prop := solverPigeonsRow.holds Try.pinned (OpenSpec.ofChange solverPigeonsSpec)

/-- ITS FALSE NEIGHBOUR: 'it returns false'. Refute it at one input. -/
def solverPigeonsWrong : ChangeSpec := { name := "solverPigeons", fn := fun _ => fun
  | [d] => { results := [.lit (.bool false)], args := [d] }
  | _ => none }
def SolverPigeonsWrongFalsely : Prop := solverPigeonsRow.holds Try.pinned (OpenSpec.ofChange solverPigeonsWrong)

/-- 'relyguardlaw24.SolverFuel': WHATEVER THE INPUT: true; the input reads as it did. -/
def solverFuelSpec : ChangeSpec := { name := "solverFuel", fn := fun _ => fun
  | [d1, d2, d3, d4, d5] => { results := [.lit (.bool true)], args := [d1, d2, d3, d4, d5] }
  | _ => none }
def solverFuelRow : OpenClaim := { program := "ytnanofipjiclfaa", sum := "c56f9e1c4b182ac76f470958034e20547d8a8f9f2c4df9d275de9de8e2725273", func := "relyguard/relyguardlaw24.SolverFuel", spec := "solverFuel", unfollowed := true, recurses := true, apart := false }
def SolverFuelSaid : Prop := solverFuelRow.holds Try.pinned (OpenSpec.ofChange solverFuelSpec)

/-- ITS FALSE NEIGHBOUR: 'it returns false'. Refute it at one input. -/
def solverFuelWrong : ChangeSpec := { name := "solverFuel", fn := fun _ => fun
  | [d1, d2, d3, d4, d5] => { results := [.lit (.bool false)], args := [d1, d2, d3, d4, d5] }
  | _ => none }
def SolverFuelWrongFalsely : Prop := solverFuelRow.holds Try.pinned (OpenSpec.ofChange solverFuelWrong)

/-- 'relyguardlaw24.SolverGates': WHATEVER THE INPUT: true; the input reads as it did. -/
def solverGatesSpec : ChangeSpec := { name := "solverGates", fn := fun _ => fun
  | [d1, d2, d3] => { results := [.lit (.bool true)], args := [d1, d2, d3] }
  | _ => none }
def solverGatesRow : OpenClaim := { program := "ytnanofipjiclfaa", sum := "c56f9e1c4b182ac76f470958034e20547d8a8f9f2c4df9d275de9de8e2725273", func := "relyguard/relyguardlaw24.SolverGates", spec := "solverGates", unfollowed := true, recurses := true, apart := false }
def SolverGatesSaid : Prop := solverGatesRow.holds Try.pinned (OpenSpec.ofChange solverGatesSpec)

/-- ITS FALSE NEIGHBOUR: 'it returns false'. Refute it at one input. -/
def solverGatesWrong : ChangeSpec := { name := "solverGates", fn := fun _ => fun
  | [d1, d2, d3] => { results := [.lit (.bool false)], args := [d1, d2, d3] }
  | _ => none }
def SolverGatesWrongFalsely : Prop := solverGatesRow.holds Try.pinned (OpenSpec.ofChange solverGatesWrong)

/- THE SECOND FORM. 'bulk': how many values and letters a reading holds, each counted each time it is reached (what is shared counts as often as it is met; a slice's spare places count too). A statement '..UptoSaid' is the law's where the arguments, and the package variables that the reading takes, are together of bulk at most 1048576: NARROWER than '..Said'. Prove '..Said' where nothing that the law and all that it calls make is longer than what came in: it says more and counts as full. Else prove '..UptoSaid'. A law counts once. -/
mutual
def uptoBulk {H : Type} : DataW H → Nat
  | .lit (.string bytes) => bytes.length + 1
  | .lit _ => 1
  | .nil => 1
  | .ptr d => uptoBulk d + 1
  | .slice elems spare => uptoBulkAll elems + uptoBulkAll spare + 1
  | .agg parts => uptoBulkAll parts + 1
  | .iface _ d => uptoBulk d + 1
  | .map entries => uptoBulkEntries entries + 1
  | .held _ => 1
def uptoBulkAll {H : Type} : List (DataW H) → Nat
  | [] => 0
  | d :: r => uptoBulk d + uptoBulkAll r
def uptoBulkEntries {H : Type} : List (Lit × DataW H) → Nat
  | [] => 0
  | x :: r => uptoBulkEntry x + uptoBulkEntries r
def uptoBulkEntry {H : Type} : Lit × DataW H → Nat
  | (.string bytes, d) => bytes.length + uptoBulk d + 1
  | (_, d) => uptoBulk d + 1
 end
def uptoSmall : (H : Type) → List (DataW H) → Bool := fun _ ds => decide (uptoBulkAll ds ≤ 1048576)
def OpenSpec.upto (s : _root_.Go.ChangeSpec) : _root_.Go.OpenSpec := { _root_.Go.OpenSpec.ofChange s with cond := some uptoSmall }

/-- 'relyguardlaw24.SolverRefutations', WHERE WHAT IT READS IS OF BULK AT MOST 1048576: true; the input reads as it did. -/
def solverRefutationsUptoRow : OpenClaim := { program := "ytnanofipjiclfaa", sum := "c56f9e1c4b182ac76f470958034e20547d8a8f9f2c4df9d275de9de8e2725273", func := "relyguard/relyguardlaw24.SolverRefutations", spec := "solverRefutations", unfollowed := true, recurses := true, apart := false, narrowed := true }
def SolverRefutationsUptoSaid : Prop := solverRefutationsUptoRow.holds Try.pinned (OpenSpec.upto solverRefutationsSpec)

/-- 'relyguardlaw24.SolverIncrements', WHERE WHAT IT READS IS OF BULK AT MOST 1048576: true; the input reads as it did. -/
def solverIncrementsUptoRow : OpenClaim := { program := "ytnanofipjiclfaa", sum := "c56f9e1c4b182ac76f470958034e20547d8a8f9f2c4df9d275de9de8e2725273", func := "relyguard/relyguardlaw24.SolverIncrements", spec := "solverIncrements", unfollowed := true, recurses := true, apart := false, narrowed := true }
def SolverIncrementsUptoSaid : Prop := solverIncrementsUptoRow.holds Try.pinned (OpenSpec.upto solverIncrementsSpec)

/-- 'relyguardlaw24.SolverNames', WHERE WHAT IT READS IS OF BULK AT MOST 1048576: true; the input reads as it did. -/
def solverNamesUptoRow : OpenClaim := { program := "ytnanofipjiclfaa", sum := "c56f9e1c4b182ac76f470958034e20547d8a8f9f2c4df9d275de9de8e2725273", func := "relyguard/relyguardlaw24.SolverNames", spec := "solverNames", unfollowed := true, recurses := true, apart := false, narrowed := true }
def SolverNamesUptoSaid : Prop := solverNamesUptoRow.holds Try.pinned (OpenSpec.upto solverNamesSpec)

/-- 'relyguardlaw24.SolverPigeons', WHERE WHAT IT READS IS OF BULK AT MOST 1048576: true; the input reads as it did. -/
def solverPigeonsUptoRow : OpenClaim := { program := "ytnanofipjiclfaa", sum := "c56f9e1c4b182ac76f470958034e20547d8a8f9f2c4df9d275de9de8e2725273", func := "relyguard/relyguardlaw24.SolverPigeons", spec := "solverPigeons", unfollowed := true, recurses := true, apart := false, narrowed := true }
def SolverPigeonsUptoSaid : Prop := solverPigeonsUptoRow.holds Try.pinned (OpenSpec.upto solverPigeonsSpec)

/-- 'relyguardlaw24.SolverFuel', WHERE WHAT IT READS IS OF BULK AT MOST 1048576: true; the input reads as it did. -/
def solverFuelUptoRow : OpenClaim := { program := "ytnanofipjiclfaa", sum := "c56f9e1c4b182ac76f470958034e20547d8a8f9f2c4df9d275de9de8e2725273", func := "relyguard/relyguardlaw24.SolverFuel", spec := "solverFuel", unfollowed := true, recurses := true, apart := false, narrowed := true }
def SolverFuelUptoSaid : Prop := solverFuelUptoRow.holds Try.pinned (OpenSpec.upto solverFuelSpec)

/-- 'relyguardlaw24.SolverGates', WHERE WHAT IT READS IS OF BULK AT MOST 1048576: true; the input reads as it did. -/
def solverGatesUptoRow : OpenClaim := { program := "ytnanofipjiclfaa", sum := "c56f9e1c4b182ac76f470958034e20547d8a8f9f2c4df9d275de9de8e2725273", func := "relyguard/relyguardlaw24.SolverGates", spec := "solverGates", unfollowed := true, recurses := true, apart := false, narrowed := true }
def SolverGatesUptoSaid : Prop := solverGatesUptoRow.holds Try.pinned (OpenSpec.upto solverGatesSpec)

end Rows
end Go.Proofs.Ytnanofipjiclfaa
