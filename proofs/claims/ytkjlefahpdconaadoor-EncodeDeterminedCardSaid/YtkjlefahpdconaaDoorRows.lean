/-
  NARROWER THAN 'FOR EVERY INPUT', by the rows' own cells (each row's printed sentence says how): EncodeDetermined: loops, laid · EncodeStates: loops, laid · EncodeShape: loops, laid · EncodeFolding: loops, laid · EncodeMeaning: loops, laid · EncodeSatisfiable: loops, laid.
  DERIVED. THE GIVEN ROWS OF THIS SEAT. 6 by the template 'for every input the law returns true; each argument reads behind the call as it read before'; 0 by the template 'total and deterministic' (their statements: YtkjlefahpdconaaDoorTotals.lean).
  GIVEN WITH THE SEED: the statements are not yours to turn. If you find one false, say at which input.
  Laid BY PROGRAM, IN A SANDBOX (cutbox-rows.mjs): the forced cells as the released guide's own fill.sh prints them over the translation ba7e093f0c73ff82… (all of the seat's roots in one cut). By AI agents, Wed Nov 11 2026. No macro, syntax, notation, axiom, sorry.
-/
import Derived.Test.YtkjlefahpdconaaDoorChecked
import GoSem.Claim
import GoSem.ClaimJoined
import GoSem.ClaimMapViews
import Derived.JoinedTies
import Derived.KernelRfl
namespace Go.Proofs.YtkjlefahpdconaaDoor
/- THE CELL 'sum', in the pinned program and in every row, IS THE sha256 OF THE DUMP (.gsa) THAT YtkjlefahpdconaaDoorProg.lean LOADS. Nothing in Lean hashes anything: it is a label: what it is worth is what the hold of that sum in a sandbox is worth. -/
noncomputable def Tryd.pinned : Pinned := { name := "ytkjlefahpdconaadoor", sum := "ba7e093f0c73ff825e0b4e7a18bd5c62ac5dec86b48a474044f23e89139e9483", checked := Tryd.checked }
namespace Rows
def none {H : Type} : Left H := { results := [], args := [] }

/- WHAT THE LISTED PACKAGE-LEVEL VARIABLES READ AS WHEN THE CALL BEGINS. Each datum BY PROGRAM (the guide's laid-datum.mjs) off the statement by which the dump's own 'gosem.cut.vars' lays the variable. In a bare row this is a premise. The card (YtkjlefahpdconaaDoorCards.lean) ties it to the program's text. -/
def laid_relyguard_expr_masks {H : Type} : DataW H := .agg [.lit (.int .i64 0), .lit (.int .i64 1), .lit (.int .i64 3), .lit (.int .i64 7), .lit (.int .i64 15), .lit (.int .i64 31), .lit (.int .i64 63), .lit (.int .i64 127), .lit (.int .i64 255)]

/-- 'relyguardlaw22.EncodeDetermined': WHATEVER THE INPUT: true; the input reads as it did. -/
def encodeDeterminedSpec : ChangeSpec := { name := "encodeDetermined", fn := fun _ => fun
  | [d1, d2, d3, d4, d5, d6] => { results := [.lit (.bool true)], args := [d1, d2, d3, d4, d5, d6] }
  | _ => none }
def encodeDeterminedRow : OpenClaim := { program := "ytkjlefahpdconaadoor", sum := "ba7e093f0c73ff825e0b4e7a18bd5c62ac5dec86b48a474044f23e89139e9483", func := "relyguard/relyguardlaw22.EncodeDetermined", spec := "encodeDetermined", unfollowed := true, recurses := true, named := ["relyguard/expr.masks"], loops := true, apart := false, laid := [("relyguard/expr.masks", laid_relyguard_expr_masks)] }
def EncodeDeterminedSaid : Prop := encodeDeterminedRow.holds Tryd.pinned (OpenSpec.ofChange encodeDeterminedSpec)

/-- ITS FALSE NEIGHBOUR: 'it returns false'. Refute it at one input. -/
def encodeDeterminedWrong : ChangeSpec := { name := "encodeDetermined", fn := fun _ => fun
  | [d1, d2, d3, d4, d5, d6] => { results := [.lit (.bool false)], args := [d1, d2, d3, d4, d5, d6] }
  | _ => none }
def EncodeDeterminedWrongFalsely : Prop := encodeDeterminedRow.holds Tryd.pinned (OpenSpec.ofChange encodeDeterminedWrong)

/-- 'relyguardlaw22.EncodeStates': WHATEVER THE INPUT: true; the input reads as it did. -/
def encodeStatesSpec : ChangeSpec := { name := "encodeStates", fn := fun _ => fun
  | [d1, d2, d3, d4] => { results := [.lit (.bool true)], args := [d1, d2, d3, d4] }
  | _ => none }
def encodeStatesRow : OpenClaim := { program := "ytkjlefahpdconaadoor", sum := "ba7e093f0c73ff825e0b4e7a18bd5c62ac5dec86b48a474044f23e89139e9483", func := "relyguard/relyguardlaw22.EncodeStates", spec := "encodeStates", unfollowed := true, recurses := true, named := ["relyguard/expr.masks"], loops := true, apart := false, laid := [("relyguard/expr.masks", laid_relyguard_expr_masks)] }
def EncodeStatesSaid : Prop := encodeStatesRow.holds Tryd.pinned (OpenSpec.ofChange encodeStatesSpec)

/-- ITS FALSE NEIGHBOUR: 'it returns false'. Refute it at one input. -/
def encodeStatesWrong : ChangeSpec := { name := "encodeStates", fn := fun _ => fun
  | [d1, d2, d3, d4] => { results := [.lit (.bool false)], args := [d1, d2, d3, d4] }
  | _ => none }
def EncodeStatesWrongFalsely : Prop := encodeStatesRow.holds Tryd.pinned (OpenSpec.ofChange encodeStatesWrong)

/-- 'relyguardlaw22.EncodeShape': WHATEVER THE INPUT: true; the input reads as it did. -/
def encodeShapeSpec : ChangeSpec := { name := "encodeShape", fn := fun _ => fun
  | [d1, d2] => { results := [.lit (.bool true)], args := [d1, d2] }
  | _ => none }
def encodeShapeRow : OpenClaim := { program := "ytkjlefahpdconaadoor", sum := "ba7e093f0c73ff825e0b4e7a18bd5c62ac5dec86b48a474044f23e89139e9483", func := "relyguard/relyguardlaw22.EncodeShape", spec := "encodeShape", unfollowed := true, recurses := true, named := ["relyguard/expr.masks"], loops := true, apart := false, laid := [("relyguard/expr.masks", laid_relyguard_expr_masks)] }
def EncodeShapeSaid : Prop := encodeShapeRow.holds Tryd.pinned (OpenSpec.ofChange encodeShapeSpec)

/-- ITS FALSE NEIGHBOUR: 'it returns false'. Refute it at one input. -/
def encodeShapeWrong : ChangeSpec := { name := "encodeShape", fn := fun _ => fun
  | [d1, d2] => { results := [.lit (.bool false)], args := [d1, d2] }
  | _ => none }
def EncodeShapeWrongFalsely : Prop := encodeShapeRow.holds Tryd.pinned (OpenSpec.ofChange encodeShapeWrong)

/-- 'relyguardlaw22.EncodeFolding': WHATEVER THE INPUT: true; the input reads as it did. -/
def encodeFoldingSpec : ChangeSpec := { name := "encodeFolding", fn := fun _ => fun
  | [d1, d2, d3, d4] => { results := [.lit (.bool true)], args := [d1, d2, d3, d4] }
  | _ => none }
def encodeFoldingRow : OpenClaim := { program := "ytkjlefahpdconaadoor", sum := "ba7e093f0c73ff825e0b4e7a18bd5c62ac5dec86b48a474044f23e89139e9483", func := "relyguard/relyguardlaw22.EncodeFolding", spec := "encodeFolding", unfollowed := true, recurses := true, named := ["relyguard/expr.masks"], loops := true, apart := false, laid := [("relyguard/expr.masks", laid_relyguard_expr_masks)] }
def EncodeFoldingSaid : Prop := encodeFoldingRow.holds Tryd.pinned (OpenSpec.ofChange encodeFoldingSpec)

/-- ITS FALSE NEIGHBOUR: 'it returns false'. Refute it at one input. -/
def encodeFoldingWrong : ChangeSpec := { name := "encodeFolding", fn := fun _ => fun
  | [d1, d2, d3, d4] => { results := [.lit (.bool false)], args := [d1, d2, d3, d4] }
  | _ => none }
def EncodeFoldingWrongFalsely : Prop := encodeFoldingRow.holds Tryd.pinned (OpenSpec.ofChange encodeFoldingWrong)

/-- 'relyguardlaw22.EncodeMeaning': WHATEVER THE INPUT: true; the input reads as it did. -/
def encodeMeaningSpec : ChangeSpec := { name := "encodeMeaning", fn := fun _ => fun
  | [d1, d2, d3, d4] => { results := [.lit (.bool true)], args := [d1, d2, d3, d4] }
  | _ => none }
def encodeMeaningRow : OpenClaim := { program := "ytkjlefahpdconaadoor", sum := "ba7e093f0c73ff825e0b4e7a18bd5c62ac5dec86b48a474044f23e89139e9483", func := "relyguard/relyguardlaw22.EncodeMeaning", spec := "encodeMeaning", unfollowed := true, recurses := true, named := ["relyguard/expr.masks"], loops := true, apart := false, laid := [("relyguard/expr.masks", laid_relyguard_expr_masks)] }
def EncodeMeaningSaid : Prop := encodeMeaningRow.holds Tryd.pinned (OpenSpec.ofChange encodeMeaningSpec)

/-- ITS FALSE NEIGHBOUR: 'it returns false'. Refute it at one input. -/
def encodeMeaningWrong : ChangeSpec := { name := "encodeMeaning", fn := fun _ => fun
  | [d1, d2, d3, d4] => { results := [.lit (.bool false)], args := [d1, d2, d3, d4] }
  | _ => none }
def EncodeMeaningWrongFalsely : Prop := encodeMeaningRow.holds Tryd.pinned (OpenSpec.ofChange encodeMeaningWrong)

/-- 'relyguardlaw22.EncodeSatisfiable': WHATEVER THE INPUT: true; the input reads as it did. -/
def encodeSatisfiableSpec : ChangeSpec := { name := "encodeSatisfiable", fn := fun _ => fun
  | [d1, d2] => { results := [.lit (.bool true)], args := [d1, d2] }
  | _ => none }
def encodeSatisfiableRow : OpenClaim := { program := "ytkjlefahpdconaadoor", sum := "ba7e093f0c73ff825e0b4e7a18bd5c62ac5dec86b48a474044f23e89139e9483", func := "relyguard/relyguardlaw22.EncodeSatisfiable", spec := "encodeSatisfiable", unfollowed := true, recurses := true, named := ["relyguard/expr.masks"], loops := true, apart := false, laid := [("relyguard/expr.masks", laid_relyguard_expr_masks)] }
def EncodeSatisfiableSaid : Prop := encodeSatisfiableRow.holds Tryd.pinned (OpenSpec.ofChange encodeSatisfiableSpec)

/-- ITS FALSE NEIGHBOUR: 'it returns false'. Refute it at one input. -/
def encodeSatisfiableWrong : ChangeSpec := { name := "encodeSatisfiable", fn := fun _ => fun
  | [d1, d2] => { results := [.lit (.bool false)], args := [d1, d2] }
  | _ => none }
def EncodeSatisfiableWrongFalsely : Prop := encodeSatisfiableRow.holds Tryd.pinned (OpenSpec.ofChange encodeSatisfiableWrong)

/- THE SECOND FORM. 'bulk': how many values and letters a reading holds, each counted each time it is reached (what is shared counts as often as it is met; a slice's spare places count too). A statement '..UptoSaid' is the law's where the arguments, and the package variables that the reading takes, are together of bulk at most 1048576: NARROWER than '..Said'. Prove '..Said' where nothing that the law and all that it calls make is longer than what came in: it says more and counts as full. Else prove '..UptoSaid'. A law counts once. -/
mutual
def uptoBulk {H : Type} : DataW H → Nat
  | .lit (.string bytes) => bytes.length + 1
  | .lit _ => 1
  | .nil => 1
  | .ptr d => uptoBulk d + 1
  | .slice elems spare => uptoBulkAll elems + uptoBulkAll spare + 1
  | .agg parts => uptoBulkAll parts + 1
  | .iface _ d => uptoBulk d + 1
  | .map entries => uptoBulkEntries entries + 1
  | .held _ => 1
def uptoBulkAll {H : Type} : List (DataW H) → Nat
  | [] => 0
  | d :: r => uptoBulk d + uptoBulkAll r
def uptoBulkEntries {H : Type} : List (Lit × DataW H) → Nat
  | [] => 0
  | x :: r => uptoBulkEntry x + uptoBulkEntries r
def uptoBulkEntry {H : Type} : Lit × DataW H → Nat
  | (.string bytes, d) => bytes.length + uptoBulk d + 1
  | (_, d) => uptoBulk d + 1
 end
def uptoSmall : (H : Type) → List (DataW H) → Bool := fun _ ds => decide (uptoBulkAll ds ≤ 1048576)
def OpenSpec.upto (s : _root_.Go.ChangeSpec) : _root_.Go.OpenSpec := { _root_.Go.OpenSpec.ofChange s with cond := some uptoSmall }

/-- 'relyguardlaw22.EncodeDetermined', WHERE WHAT IT READS IS OF BULK AT MOST 1048576: true; the input reads as it did. -/
def encodeDeterminedUptoRow : OpenClaim := { program := "ytkjlefahpdconaadoor", sum := "ba7e093f0c73ff825e0b4e7a18bd5c62ac5dec86b48a474044f23e89139e9483", func := "relyguard/relyguardlaw22.EncodeDetermined", spec := "encodeDetermined", unfollowed := true, recurses := true, named := ["relyguard/expr.masks"], loops := true, apart := false, laid := [("relyguard/expr.masks", laid_relyguard_expr_masks)], narrowed := true }
def EncodeDeterminedUptoSaid : Prop := encodeDeterminedUptoRow.holds Tryd.pinned (OpenSpec.upto encodeDeterminedSpec)

/-- 'relyguardlaw22.EncodeStates', WHERE WHAT IT READS IS OF BULK AT MOST 1048576: true; the input reads as it did. -/
def encodeStatesUptoRow : OpenClaim := { program := "ytkjlefahpdconaadoor", sum := "ba7e093f0c73ff825e0b4e7a18bd5c62ac5dec86b48a474044f23e89139e9483", func := "relyguard/relyguardlaw22.EncodeStates", spec := "encodeStates", unfollowed := true, recurses := true, named := ["relyguard/expr.masks"], loops := true, apart := false, laid := [("relyguard/expr.masks", laid_relyguard_expr_masks)], narrowed := true }
def EncodeStatesUptoSaid : Prop := encodeStatesUptoRow.holds Tryd.pinned (OpenSpec.upto encodeStatesSpec)

/-- 'relyguardlaw22.EncodeShape', WHERE WHAT IT READS IS OF BULK AT MOST 1048576: true; the input reads as it did. -/
def encodeShapeUptoRow : OpenClaim := { program := "ytkjlefahpdconaadoor", sum := "ba7e093f0c73ff825e0b4e7a18bd5c62ac5dec86b48a474044f23e89139e9483", func := "relyguard/relyguardlaw22.EncodeShape", spec := "encodeShape", unfollowed := true, recurses := true, named := ["relyguard/expr.masks"], loops := true, apart := false, laid := [("relyguard/expr.masks", laid_relyguard_expr_masks)], narrowed := true }
def EncodeShapeUptoSaid : Prop := encodeShapeUptoRow.holds Tryd.pinned (OpenSpec.upto encodeShapeSpec)

/-- 'relyguardlaw22.EncodeFolding', WHERE WHAT IT READS IS OF BULK AT MOST 1048576: true; the input reads as it did. -/
def encodeFoldingUptoRow : OpenClaim := { program := "ytkjlefahpdconaadoor", sum := "ba7e093f0c73ff825e0b4e7a18bd5c62ac5dec86b48a474044f23e89139e9483", func := "relyguard/relyguardlaw22.EncodeFolding", spec := "encodeFolding", unfollowed := true, recurses := true, named := ["relyguard/expr.masks"], loops := true, apart := false, laid := [("relyguard/expr.masks", laid_relyguard_expr_masks)], narrowed := true }
def EncodeFoldingUptoSaid : Prop := encodeFoldingUptoRow.holds Tryd.pinned (OpenSpec.upto encodeFoldingSpec)

/-- 'relyguardlaw22.EncodeMeaning', WHERE WHAT IT READS IS OF BULK AT MOST 1048576: true; the input reads as it did. -/
def encodeMeaningUptoRow : OpenClaim := { program := "ytkjlefahpdconaadoor", sum := "ba7e093f0c73ff825e0b4e7a18bd5c62ac5dec86b48a474044f23e89139e9483", func := "relyguard/relyguardlaw22.EncodeMeaning", spec := "encodeMeaning", unfollowed := true, recurses := true, named := ["relyguard/expr.masks"], loops := true, apart := false, laid := [("relyguard/expr.masks", laid_relyguard_expr_masks)], narrowed := true }
def EncodeMeaningUptoSaid : Prop := encodeMeaningUptoRow.holds Tryd.pinned (OpenSpec.upto encodeMeaningSpec)

/-- 'relyguardlaw22.EncodeSatisfiable', WHERE WHAT IT READS IS OF BULK AT MOST 1048576: true; the input reads as it did. -/
def encodeSatisfiableUptoRow : OpenClaim := { program := "ytkjlefahpdconaadoor", sum := "ba7e093f0c73ff825e0b4e7a18bd5c62ac5dec86b48a474044f23e89139e9483", func := "relyguard/relyguardlaw22.EncodeSatisfiable", spec := "encodeSatisfiable", unfollowed := true, recurses := true, named := ["relyguard/expr.masks"], loops := true, apart := false, laid := [("relyguard/expr.masks", laid_relyguard_expr_masks)], narrowed := true }
def EncodeSatisfiableUptoSaid : Prop := encodeSatisfiableUptoRow.holds Tryd.pinned (OpenSpec.upto encodeSatisfiableSpec)

end Rows
end Go.Proofs.YtkjlefahpdconaaDoor
