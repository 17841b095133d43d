/-
  NARROWER THAN 'FOR EVERY INPUT', by the rows' own cells (each row's printed sentence says how): TopRenumberedRuns: loops, laid · TopDrainedRuns: loops, laid · TopReachedRuns: loops, laid.
  DERIVED. THE GIVEN ROWS OF THIS SEAT. 3 by the template 'for every input the law returns true; each argument reads behind the call as it read before'; 0 by the template 'total and deterministic' (their statements: YtdpdbokicanpoaaGreatDoorTotals.lean).
  GIVEN WITH THE SEED: the statements are not yours to turn. If you find one false, say at which input.
  Laid BY PROGRAM, IN A SANDBOX (cutbox-rows.mjs): the forced cells as the released guide's own fill.sh prints them over the translation dcca0fd9a7f8342e… (all of the seat's roots in one cut). By AI agents, Wed Nov 11 2026. No macro, syntax, notation, axiom, sorry.
-/
import Derived.Test.YtdpdbokicanpoaaGreatDoorChecked
import GoSem.Claim
import GoSem.ClaimJoined
import GoSem.ClaimMapViews
import Derived.JoinedTies
import Derived.KernelRfl
namespace Go.Proofs.YtdpdbokicanpoaaGreatDoor
/- THE CELL 'sum', in the pinned program and in every row, IS THE sha256 OF THE DUMP (.gsa) THAT YtdpdbokicanpoaaGreatDoorProg.lean LOADS. Nothing in Lean hashes anything: it is a label: what it is worth is what the hold of that sum in a sandbox is worth. -/
noncomputable def Tryz.pinned : Pinned := { name := "ytdpdbokicanpoaagreatdoor", sum := "dcca0fd9a7f8342e29926241b912988c00f82e67f3e19aa1fba905261028d865", checked := Tryz.checked }
namespace Rows
def none {H : Type} : Left H := { results := [], args := [] }

/- WHAT THE LISTED PACKAGE-LEVEL VARIABLES READ AS WHEN THE CALL BEGINS. Each datum BY PROGRAM (the guide's laid-datum.mjs) off the statement by which the dump's own 'gosem.cut.vars' lays the variable. In a bare row this is a premise. The card (YtdpdbokicanpoaaGreatDoorCards.lean) ties it to the program's text. -/
def laid_relyguard_expr_masks {H : Type} : DataW H := .agg [.lit (.int .i64 0), .lit (.int .i64 1), .lit (.int .i64 3), .lit (.int .i64 7), .lit (.int .i64 15), .lit (.int .i64 31), .lit (.int .i64 63), .lit (.int .i64 127), .lit (.int .i64 255)]

/-- 'relyguardtop.TopRenumberedRuns': WHATEVER THE INPUT: true; the input reads as it did. -/
def topRenumberedRunsSpec : ChangeSpec := { name := "topRenumberedRuns", fn := fun _ => fun
  | [d1, d2, d3, d4] => { results := [.lit (.bool true)], args := [d1, d2, d3, d4] }
  | _ => none }
def topRenumberedRunsRow : OpenClaim := { program := "ytdpdbokicanpoaagreatdoor", sum := "dcca0fd9a7f8342e29926241b912988c00f82e67f3e19aa1fba905261028d865", func := "relyguard/relyguardtop.TopRenumberedRuns", spec := "topRenumberedRuns", unfollowed := true, recurses := true, named := ["relyguard/expr.masks"], loops := true, apart := false, laid := [("relyguard/expr.masks", laid_relyguard_expr_masks)] }
def TopRenumberedRunsSaid : Prop := topRenumberedRunsRow.holds Tryz.pinned (OpenSpec.ofChange topRenumberedRunsSpec)

/-- ITS FALSE NEIGHBOUR: 'it returns false'. Refute it at one input. -/
def topRenumberedRunsWrong : ChangeSpec := { name := "topRenumberedRuns", fn := fun _ => fun
  | [d1, d2, d3, d4] => { results := [.lit (.bool false)], args := [d1, d2, d3, d4] }
  | _ => none }
def TopRenumberedRunsWrongFalsely : Prop := topRenumberedRunsRow.holds Tryz.pinned (OpenSpec.ofChange topRenumberedRunsWrong)

/-- 'relyguardtop.TopDrainedRuns': WHATEVER THE INPUT: true; the input reads as it did. -/
def topDrainedRunsSpec : ChangeSpec := { name := "topDrainedRuns", fn := fun _ => fun
  | [d1, d2, d3, d4, d5] => { results := [.lit (.bool true)], args := [d1, d2, d3, d4, d5] }
  | _ => none }
def topDrainedRunsRow : OpenClaim := { program := "ytdpdbokicanpoaagreatdoor", sum := "dcca0fd9a7f8342e29926241b912988c00f82e67f3e19aa1fba905261028d865", func := "relyguard/relyguardtop.TopDrainedRuns", spec := "topDrainedRuns", unfollowed := true, recurses := true, named := ["relyguard/expr.masks"], loops := true, apart := false, laid := [("relyguard/expr.masks", laid_relyguard_expr_masks)] }
def TopDrainedRunsSaid : Prop := topDrainedRunsRow.holds Tryz.pinned (OpenSpec.ofChange topDrainedRunsSpec)

/-- ITS FALSE NEIGHBOUR: 'it returns false'. Refute it at one input. -/
def topDrainedRunsWrong : ChangeSpec := { name := "topDrainedRuns", fn := fun _ => fun
  | [d1, d2, d3, d4, d5] => { results := [.lit (.bool false)], args := [d1, d2, d3, d4, d5] }
  | _ => none }
def TopDrainedRunsWrongFalsely : Prop := topDrainedRunsRow.holds Tryz.pinned (OpenSpec.ofChange topDrainedRunsWrong)

/-- 'relyguardtop.TopReachedRuns': WHATEVER THE INPUT: true; the input reads as it did. -/
def topReachedRunsSpec : ChangeSpec := { name := "topReachedRuns", fn := fun _ => fun
  | [d1, d2, d3, d4] => { results := [.lit (.bool true)], args := [d1, d2, d3, d4] }
  | _ => none }
def topReachedRunsRow : OpenClaim := { program := "ytdpdbokicanpoaagreatdoor", sum := "dcca0fd9a7f8342e29926241b912988c00f82e67f3e19aa1fba905261028d865", func := "relyguard/relyguardtop.TopReachedRuns", spec := "topReachedRuns", unfollowed := true, recurses := true, named := ["relyguard/expr.masks"], loops := true, apart := false, laid := [("relyguard/expr.masks", laid_relyguard_expr_masks)] }
def TopReachedRunsSaid : Prop := topReachedRunsRow.holds Tryz.pinned (OpenSpec.ofChange topReachedRunsSpec)

/-- ITS FALSE NEIGHBOUR: 'it returns false'. Refute it at one input. -/
def topReachedRunsWrong : ChangeSpec := { name := "topReachedRuns", fn := fun _ => fun
  | [d1, d2, d3, d4] => { results := [.lit (.bool false)], args := [d1, d2, d3, d4] }
  | _ => none }
def TopReachedRunsWrongFalsely : Prop := topReachedRunsRow.holds Tryz.pinned (OpenSpec.ofChange topReachedRunsWrong)

/- THE SECOND FORM. 'bulk': how many values and letters a reading holds, each counted each time it is reached (what is shared counts as often as it is met; a slice's spare places count too). A statement '..UptoSaid' is the law's where the arguments, and the package variables that the reading takes, are together of bulk at most 1048576: NARROWER than '..Said'. Prove '..Said' where nothing that the law and all that it calls make is longer than what came in: it says more and counts as full. Else prove '..UptoSaid'. A law counts once. -/
mutual
def uptoBulk {H : Type} : DataW H → Nat
  | .lit (.string bytes) => bytes.length + 1
  | .lit _ => 1
  | .nil => 1
  | .ptr d => uptoBulk d + 1
  | .slice elems spare => uptoBulkAll elems + uptoBulkAll spare + 1
  | .agg parts => uptoBulkAll parts + 1
  | .iface _ d => uptoBulk d + 1
  | .map entries => uptoBulkEntries entries + 1
  | .held _ => 1
def uptoBulkAll {H : Type} : List (DataW H) → Nat
  | [] => 0
  | d :: r => uptoBulk d + uptoBulkAll r
def uptoBulkEntries {H : Type} : List (Lit × DataW H) → Nat
  | [] => 0
  | x :: r => uptoBulkEntry x + uptoBulkEntries r
def uptoBulkEntry {H : Type} : Lit × DataW H → Nat
  | (.string bytes, d) => bytes.length + uptoBulk d + 1
  | (_, d) => uptoBulk d + 1
 end
def uptoSmall : (H : Type) → List (DataW H) → Bool := fun _ ds => decide (uptoBulkAll ds ≤ 1048576)
def OpenSpec.upto (s : _root_.Go.ChangeSpec) : _root_.Go.OpenSpec := { _root_.Go.OpenSpec.ofChange s with cond := some uptoSmall }

/-- 'relyguardtop.TopRenumberedRuns', WHERE WHAT IT READS IS OF BULK AT MOST 1048576: true; the input reads as it did. -/
def topRenumberedRunsUptoRow : OpenClaim := { program := "ytdpdbokicanpoaagreatdoor", sum := "dcca0fd9a7f8342e29926241b912988c00f82e67f3e19aa1fba905261028d865", func := "relyguard/relyguardtop.TopRenumberedRuns", spec := "topRenumberedRuns", unfollowed := true, recurses := true, named := ["relyguard/expr.masks"], loops := true, apart := false, laid := [("relyguard/expr.masks", laid_relyguard_expr_masks)], narrowed := true }
def TopRenumberedRunsUptoSaid : Prop := topRenumberedRunsUptoRow.holds Tryz.pinned (OpenSpec.upto topRenumberedRunsSpec)

/-- 'relyguardtop.TopDrainedRuns', WHERE WHAT IT READS IS OF BULK AT MOST 1048576: true; the input reads as it did. -/
def topDrainedRunsUptoRow : OpenClaim := { program := "ytdpdbokicanpoaagreatdoor", sum := "dcca0fd9a7f8342e29926241b912988c00f82e67f3e19aa1fba905261028d865", func := "relyguard/relyguardtop.TopDrainedRuns", spec := "topDrainedRuns", unfollowed := true, recurses := true, named := ["relyguard/expr.masks"], loops := true, apart := false, laid := [("relyguard/expr.masks", laid_relyguard_expr_masks)], narrowed := true }
def TopDrainedRunsUptoSaid : Prop := topDrainedRunsUptoRow.holds Tryz.pinned (OpenSpec.upto topDrainedRunsSpec)

/-- 'relyguardtop.TopReachedRuns', WHERE WHAT IT READS IS OF BULK AT MOST 1048576: true; the input reads as it did. -/
def topReachedRunsUptoRow : OpenClaim := { program := "ytdpdbokicanpoaagreatdoor", sum := "dcca0fd9a7f8342e29926241b912988c00f82e67f3e19aa1fba905261028d865", func := "relyguard/relyguardtop.TopReachedRuns", spec := "topReachedRuns", unfollowed := true, recurses := true, named := ["relyguard/expr.masks"], loops := true, apart := false, laid := [("relyguard/expr.masks", laid_relyguard_expr_masks)], narrowed := true }
def TopReachedRunsUptoSaid : Prop := topReachedRunsUptoRow.holds Tryz.pinned (OpenSpec.upto topReachedRunsSpec)

end Rows
end Go.Proofs.YtdpdbokicanpoaaGreatDoor
