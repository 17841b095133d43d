/-
  No cell of these rows narrows 'for every input' (looked for: loops, veiled, ifaces, maps, wideKeys, modest, calm, conditions, laid).
  DERIVED. THE GIVEN ROWS OF THIS SEAT. 16 by the template 'for every input the law returns true; each argument reads behind the call as it read before'; 0 by the template 'total and deterministic' (their statements: YtpmjdaiboniagaaTotals.lean).
  GIVEN WITH THE SEED: the statements are not yours to turn. If you find one false, say at which input.
  Laid BY PROGRAM, IN A SANDBOX (cutbox-rows.mjs): the forced cells as the released guide's own fill.sh prints them over the translation e4902c49926ec88e… (all of the seat's roots in one cut). By AI agents, Wed Nov 11 2026. No macro, syntax, notation, axiom, sorry.
-/
import Derived.Test.YtpmjdaiboniagaaChecked
import GoSem.Claim
import GoSem.ClaimJoined
import GoSem.ClaimMapViews
import Derived.JoinedTies
import Derived.KernelRfl
namespace Go.Proofs.Ytpmjdaiboniagaa
/- THE CELL 'sum', in the pinned program and in every row, IS THE sha256 OF THE DUMP (.gsa) THAT YtpmjdaiboniagaaProg.lean LOADS. Nothing in Lean hashes anything: it is a label: what it is worth is what the hold of that sum in a sandbox is worth. -/
noncomputable def Try.pinned : Pinned := { name := "ytpmjdaiboniagaa", sum := "e4902c49926ec88e5150726dca75835bcdd6dc832911ce6cea55110d40380efe", checked := Try.checked }
namespace Rows
def none {H : Type} : Left H := { results := [], args := [] }

/-- 'relyguardlaw23.UnitpropMatchesReference': WHATEVER THE INPUT: true; the input reads as it did. -/
def unitpropMatchesReferenceSpec : ChangeSpec := { name := "unitpropMatchesReference", fn := fun _ => fun
  | [d1, d2] => { results := [.lit (.bool true)], args := [d1, d2] }
  | _ => none }
def unitpropMatchesReferenceRow : OpenClaim := { program := "ytpmjdaiboniagaa", sum := "e4902c49926ec88e5150726dca75835bcdd6dc832911ce6cea55110d40380efe", func := "relyguard/relyguardlaw23.UnitpropMatchesReference", spec := "unitpropMatchesReference", unfollowed := true, recurses := true, apart := false }
def UnitpropMatchesReferenceSaid : Prop := unitpropMatchesReferenceRow.holds Try.pinned (OpenSpec.ofChange unitpropMatchesReferenceSpec)

/-- ITS FALSE NEIGHBOUR: 'it returns false'. Refute it at one input. -/
def unitpropMatchesReferenceWrong : ChangeSpec := { name := "unitpropMatchesReference", fn := fun _ => fun
  | [d1, d2] => { results := [.lit (.bool false)], args := [d1, d2] }
  | _ => none }
def UnitpropMatchesReferenceWrongFalsely : Prop := unitpropMatchesReferenceRow.holds Try.pinned (OpenSpec.ofChange unitpropMatchesReferenceWrong)

/-- 'relyguardlaw23.UnitpropSound': WHATEVER THE INPUT: true; the input reads as it did. -/
def unitpropSoundSpec : ChangeSpec := { name := "unitpropSound", fn := fun _ => fun
  | [d1, d2] => { results := [.lit (.bool true)], args := [d1, d2] }
  | _ => none }
def unitpropSoundRow : OpenClaim := { program := "ytpmjdaiboniagaa", sum := "e4902c49926ec88e5150726dca75835bcdd6dc832911ce6cea55110d40380efe", func := "relyguard/relyguardlaw23.UnitpropSound", spec := "unitpropSound", unfollowed := true, recurses := true, apart := false }
def UnitpropSoundSaid : Prop := unitpropSoundRow.holds Try.pinned (OpenSpec.ofChange unitpropSoundSpec)

/-- ITS FALSE NEIGHBOUR: 'it returns false'. Refute it at one input. -/
def unitpropSoundWrong : ChangeSpec := { name := "unitpropSound", fn := fun _ => fun
  | [d1, d2] => { results := [.lit (.bool false)], args := [d1, d2] }
  | _ => none }
def UnitpropSoundWrongFalsely : Prop := unitpropSoundRow.holds Try.pinned (OpenSpec.ofChange unitpropSoundWrong)

/-- 'relyguardlaw23.UnitpropClosed': WHATEVER THE INPUT: true; the input reads as it did. -/
def unitpropClosedSpec : ChangeSpec := { name := "unitpropClosed", fn := fun _ => fun
  | [d1, d2] => { results := [.lit (.bool true)], args := [d1, d2] }
  | _ => none }
def unitpropClosedRow : OpenClaim := { program := "ytpmjdaiboniagaa", sum := "e4902c49926ec88e5150726dca75835bcdd6dc832911ce6cea55110d40380efe", func := "relyguard/relyguardlaw23.UnitpropClosed", spec := "unitpropClosed", unfollowed := true, recurses := true, apart := false }
def UnitpropClosedSaid : Prop := unitpropClosedRow.holds Try.pinned (OpenSpec.ofChange unitpropClosedSpec)

/-- ITS FALSE NEIGHBOUR: 'it returns false'. Refute it at one input. -/
def unitpropClosedWrong : ChangeSpec := { name := "unitpropClosed", fn := fun _ => fun
  | [d1, d2] => { results := [.lit (.bool false)], args := [d1, d2] }
  | _ => none }
def UnitpropClosedWrongFalsely : Prop := unitpropClosedRow.holds Try.pinned (OpenSpec.ofChange unitpropClosedWrong)

/-- 'relyguardlaw23.UnitpropOrder': WHATEVER THE INPUT: true; the input reads as it did. -/
def unitpropOrderSpec : ChangeSpec := { name := "unitpropOrder", fn := fun _ => fun
  | [d1, d2, d3] => { results := [.lit (.bool true)], args := [d1, d2, d3] }
  | _ => none }
def unitpropOrderRow : OpenClaim := { program := "ytpmjdaiboniagaa", sum := "e4902c49926ec88e5150726dca75835bcdd6dc832911ce6cea55110d40380efe", func := "relyguard/relyguardlaw23.UnitpropOrder", spec := "unitpropOrder", unfollowed := true, recurses := true, apart := false }
def UnitpropOrderSaid : Prop := unitpropOrderRow.holds Try.pinned (OpenSpec.ofChange unitpropOrderSpec)

/-- ITS FALSE NEIGHBOUR: 'it returns false'. Refute it at one input. -/
def unitpropOrderWrong : ChangeSpec := { name := "unitpropOrder", fn := fun _ => fun
  | [d1, d2, d3] => { results := [.lit (.bool false)], args := [d1, d2, d3] }
  | _ => none }
def UnitpropOrderWrongFalsely : Prop := unitpropOrderRow.holds Try.pinned (OpenSpec.ofChange unitpropOrderWrong)

/-- 'relyguardlaw23.UnitpropReasons': WHATEVER THE INPUT: true; the input reads as it did. -/
def unitpropReasonsSpec : ChangeSpec := { name := "unitpropReasons", fn := fun _ => fun
  | [d1, d2] => { results := [.lit (.bool true)], args := [d1, d2] }
  | _ => none }
def unitpropReasonsRow : OpenClaim := { program := "ytpmjdaiboniagaa", sum := "e4902c49926ec88e5150726dca75835bcdd6dc832911ce6cea55110d40380efe", func := "relyguard/relyguardlaw23.UnitpropReasons", spec := "unitpropReasons", unfollowed := true, recurses := true, apart := false }
def UnitpropReasonsSaid : Prop := unitpropReasonsRow.holds Try.pinned (OpenSpec.ofChange unitpropReasonsSpec)

/-- ITS FALSE NEIGHBOUR: 'it returns false'. Refute it at one input. -/
def unitpropReasonsWrong : ChangeSpec := { name := "unitpropReasons", fn := fun _ => fun
  | [d1, d2] => { results := [.lit (.bool false)], args := [d1, d2] }
  | _ => none }
def UnitpropReasonsWrongFalsely : Prop := unitpropReasonsRow.holds Try.pinned (OpenSpec.ofChange unitpropReasonsWrong)

/-- 'relyguardlaw23.UnitpropHints': WHATEVER THE INPUT: true; the input reads as it did. -/
def unitpropHintsSpec : ChangeSpec := { name := "unitpropHints", fn := fun _ => fun
  | [d1, d2] => { results := [.lit (.bool true)], args := [d1, d2] }
  | _ => none }
def unitpropHintsRow : OpenClaim := { program := "ytpmjdaiboniagaa", sum := "e4902c49926ec88e5150726dca75835bcdd6dc832911ce6cea55110d40380efe", func := "relyguard/relyguardlaw23.UnitpropHints", spec := "unitpropHints", unfollowed := true, recurses := true, apart := false }
def UnitpropHintsSaid : Prop := unitpropHintsRow.holds Try.pinned (OpenSpec.ofChange unitpropHintsSpec)

/-- ITS FALSE NEIGHBOUR: 'it returns false'. Refute it at one input. -/
def unitpropHintsWrong : ChangeSpec := { name := "unitpropHints", fn := fun _ => fun
  | [d1, d2] => { results := [.lit (.bool false)], args := [d1, d2] }
  | _ => none }
def UnitpropHintsWrongFalsely : Prop := unitpropHintsRow.holds Try.pinned (OpenSpec.ofChange unitpropHintsWrong)

/-- 'relyguardlaw23.UnitpropMonotonic': WHATEVER THE INPUT: true; the input reads as it did. -/
def unitpropMonotonicSpec : ChangeSpec := { name := "unitpropMonotonic", fn := fun _ => fun
  | [d1, d2, d3, d4] => { results := [.lit (.bool true)], args := [d1, d2, d3, d4] }
  | _ => none }
def unitpropMonotonicRow : OpenClaim := { program := "ytpmjdaiboniagaa", sum := "e4902c49926ec88e5150726dca75835bcdd6dc832911ce6cea55110d40380efe", func := "relyguard/relyguardlaw23.UnitpropMonotonic", spec := "unitpropMonotonic", unfollowed := true, recurses := true, apart := false }
def UnitpropMonotonicSaid : Prop := unitpropMonotonicRow.holds Try.pinned (OpenSpec.ofChange unitpropMonotonicSpec)

/-- ITS FALSE NEIGHBOUR: 'it returns false'. Refute it at one input. -/
def unitpropMonotonicWrong : ChangeSpec := { name := "unitpropMonotonic", fn := fun _ => fun
  | [d1, d2, d3, d4] => { results := [.lit (.bool false)], args := [d1, d2, d3, d4] }
  | _ => none }
def UnitpropMonotonicWrongFalsely : Prop := unitpropMonotonicRow.holds Try.pinned (OpenSpec.ofChange unitpropMonotonicWrong)

/-- 'relyguardlaw26.CheckerMatchesReference': WHATEVER THE INPUT: true; the input reads as it did. -/
def checkerMatchesReferenceSpec : ChangeSpec := { name := "checkerMatchesReference", fn := fun _ => fun
  | [d1, d2] => { results := [.lit (.bool true)], args := [d1, d2] }
  | _ => none }
def checkerMatchesReferenceRow : OpenClaim := { program := "ytpmjdaiboniagaa", sum := "e4902c49926ec88e5150726dca75835bcdd6dc832911ce6cea55110d40380efe", func := "relyguard/relyguardlaw26.CheckerMatchesReference", spec := "checkerMatchesReference", unfollowed := true, recurses := true, apart := false }
def CheckerMatchesReferenceSaid : Prop := checkerMatchesReferenceRow.holds Try.pinned (OpenSpec.ofChange checkerMatchesReferenceSpec)

/-- ITS FALSE NEIGHBOUR: 'it returns false'. Refute it at one input. -/
def checkerMatchesReferenceWrong : ChangeSpec := { name := "checkerMatchesReference", fn := fun _ => fun
  | [d1, d2] => { results := [.lit (.bool false)], args := [d1, d2] }
  | _ => none }
def CheckerMatchesReferenceWrongFalsely : Prop := checkerMatchesReferenceRow.holds Try.pinned (OpenSpec.ofChange checkerMatchesReferenceWrong)

/-- 'relyguardlaw26.CheckerSound': WHATEVER THE INPUT: true; the input reads as it did. -/
def checkerSoundSpec : ChangeSpec := { name := "checkerSound", fn := fun _ => fun
  | [d1, d2] => { results := [.lit (.bool true)], args := [d1, d2] }
  | _ => none }
def checkerSoundRow : OpenClaim := { program := "ytpmjdaiboniagaa", sum := "e4902c49926ec88e5150726dca75835bcdd6dc832911ce6cea55110d40380efe", func := "relyguard/relyguardlaw26.CheckerSound", spec := "checkerSound", unfollowed := true, recurses := true, apart := false }
def CheckerSoundSaid : Prop := checkerSoundRow.holds Try.pinned (OpenSpec.ofChange checkerSoundSpec)

/-- ITS FALSE NEIGHBOUR: 'it returns false'. Refute it at one input. -/
def checkerSoundWrong : ChangeSpec := { name := "checkerSound", fn := fun _ => fun
  | [d1, d2] => { results := [.lit (.bool false)], args := [d1, d2] }
  | _ => none }
def CheckerSoundWrongFalsely : Prop := checkerSoundRow.holds Try.pinned (OpenSpec.ofChange checkerSoundWrong)

/-- 'relyguardlaw26.CheckerSteps': WHATEVER THE INPUT: true; the input reads as it did. -/
def checkerStepsSpec : ChangeSpec := { name := "checkerSteps", fn := fun _ => fun
  | [d1, d2, d3] => { results := [.lit (.bool true)], args := [d1, d2, d3] }
  | _ => none }
def checkerStepsRow : OpenClaim := { program := "ytpmjdaiboniagaa", sum := "e4902c49926ec88e5150726dca75835bcdd6dc832911ce6cea55110d40380efe", func := "relyguard/relyguardlaw26.CheckerSteps", spec := "checkerSteps", unfollowed := true, recurses := true, apart := false }
def CheckerStepsSaid : Prop := checkerStepsRow.holds Try.pinned (OpenSpec.ofChange checkerStepsSpec)

/-- ITS FALSE NEIGHBOUR: 'it returns false'. Refute it at one input. -/
def checkerStepsWrong : ChangeSpec := { name := "checkerSteps", fn := fun _ => fun
  | [d1, d2, d3] => { results := [.lit (.bool false)], args := [d1, d2, d3] }
  | _ => none }
def CheckerStepsWrongFalsely : Prop := checkerStepsRow.holds Try.pinned (OpenSpec.ofChange checkerStepsWrong)

/-- 'relyguardlaw26.CheckerMoreClauses': WHATEVER THE INPUT: true; the input reads as it did. -/
def checkerMoreClausesSpec : ChangeSpec := { name := "checkerMoreClauses", fn := fun _ => fun
  | [d1, d2, d3] => { results := [.lit (.bool true)], args := [d1, d2, d3] }
  | _ => none }
def checkerMoreClausesRow : OpenClaim := { program := "ytpmjdaiboniagaa", sum := "e4902c49926ec88e5150726dca75835bcdd6dc832911ce6cea55110d40380efe", func := "relyguard/relyguardlaw26.CheckerMoreClauses", spec := "checkerMoreClauses", unfollowed := true, recurses := true, apart := false }
def CheckerMoreClausesSaid : Prop := checkerMoreClausesRow.holds Try.pinned (OpenSpec.ofChange checkerMoreClausesSpec)

/-- ITS FALSE NEIGHBOUR: 'it returns false'. Refute it at one input. -/
def checkerMoreClausesWrong : ChangeSpec := { name := "checkerMoreClauses", fn := fun _ => fun
  | [d1, d2, d3] => { results := [.lit (.bool false)], args := [d1, d2, d3] }
  | _ => none }
def CheckerMoreClausesWrongFalsely : Prop := checkerMoreClausesRow.holds Try.pinned (OpenSpec.ofChange checkerMoreClausesWrong)

/-- 'relyguardlaw26.CheckerRenaming': WHATEVER THE INPUT: true; the input reads as it did. -/
def checkerRenamingSpec : ChangeSpec := { name := "checkerRenaming", fn := fun _ => fun
  | [d1, d2, d3, d4] => { results := [.lit (.bool true)], args := [d1, d2, d3, d4] }
  | _ => none }
def checkerRenamingRow : OpenClaim := { program := "ytpmjdaiboniagaa", sum := "e4902c49926ec88e5150726dca75835bcdd6dc832911ce6cea55110d40380efe", func := "relyguard/relyguardlaw26.CheckerRenaming", spec := "checkerRenaming", unfollowed := true, recurses := true, apart := false }
def CheckerRenamingSaid : Prop := checkerRenamingRow.holds Try.pinned (OpenSpec.ofChange checkerRenamingSpec)

/-- ITS FALSE NEIGHBOUR: 'it returns false'. Refute it at one input. -/
def checkerRenamingWrong : ChangeSpec := { name := "checkerRenaming", fn := fun _ => fun
  | [d1, d2, d3, d4] => { results := [.lit (.bool false)], args := [d1, d2, d3, d4] }
  | _ => none }
def CheckerRenamingWrongFalsely : Prop := checkerRenamingRow.holds Try.pinned (OpenSpec.ofChange checkerRenamingWrong)

/-- 'relyguardlaw26.CheckerOrder': WHATEVER THE INPUT: true; the input reads as it did. -/
def checkerOrderSpec : ChangeSpec := { name := "checkerOrder", fn := fun _ => fun
  | [d1, d2] => { results := [.lit (.bool true)], args := [d1, d2] }
  | _ => none }
def checkerOrderRow : OpenClaim := { program := "ytpmjdaiboniagaa", sum := "e4902c49926ec88e5150726dca75835bcdd6dc832911ce6cea55110d40380efe", func := "relyguard/relyguardlaw26.CheckerOrder", spec := "checkerOrder", unfollowed := true, recurses := true, apart := false }
def CheckerOrderSaid : Prop := checkerOrderRow.holds Try.pinned (OpenSpec.ofChange checkerOrderSpec)

/-- ITS FALSE NEIGHBOUR: 'it returns false'. Refute it at one input. -/
def checkerOrderWrong : ChangeSpec := { name := "checkerOrder", fn := fun _ => fun
  | [d1, d2] => { results := [.lit (.bool false)], args := [d1, d2] }
  | _ => none }
def CheckerOrderWrongFalsely : Prop := checkerOrderRow.holds Try.pinned (OpenSpec.ofChange checkerOrderWrong)

/-- 'relyguardlaw26.CheckerTampering': WHATEVER THE INPUT: true; the input reads as it did. -/
def checkerTamperingSpec : ChangeSpec := { name := "checkerTampering", fn := fun _ => fun
  | [d1, d2, d3, d4, d5] => { results := [.lit (.bool true)], args := [d1, d2, d3, d4, d5] }
  | _ => none }
def checkerTamperingRow : OpenClaim := { program := "ytpmjdaiboniagaa", sum := "e4902c49926ec88e5150726dca75835bcdd6dc832911ce6cea55110d40380efe", func := "relyguard/relyguardlaw26.CheckerTampering", spec := "checkerTampering", unfollowed := true, recurses := true, apart := false }
def CheckerTamperingSaid : Prop := checkerTamperingRow.holds Try.pinned (OpenSpec.ofChange checkerTamperingSpec)

/-- ITS FALSE NEIGHBOUR: 'it returns false'. Refute it at one input. -/
def checkerTamperingWrong : ChangeSpec := { name := "checkerTampering", fn := fun _ => fun
  | [d1, d2, d3, d4, d5] => { results := [.lit (.bool false)], args := [d1, d2, d3, d4, d5] }
  | _ => none }
def CheckerTamperingWrongFalsely : Prop := checkerTamperingRow.holds Try.pinned (OpenSpec.ofChange checkerTamperingWrong)

/-- 'relyguardtop.TopHintsJustify': WHATEVER THE INPUT: true; the input reads as it did. -/
def topHintsJustifySpec : ChangeSpec := { name := "topHintsJustify", fn := fun _ => fun
  | [d1, d2, d3] => { results := [.lit (.bool true)], args := [d1, d2, d3] }
  | _ => none }
def topHintsJustifyRow : OpenClaim := { program := "ytpmjdaiboniagaa", sum := "e4902c49926ec88e5150726dca75835bcdd6dc832911ce6cea55110d40380efe", func := "relyguard/relyguardtop.TopHintsJustify", spec := "topHintsJustify", unfollowed := true, recurses := true, apart := false }
def TopHintsJustifySaid : Prop := topHintsJustifyRow.holds Try.pinned (OpenSpec.ofChange topHintsJustifySpec)

/-- ITS FALSE NEIGHBOUR: 'it returns false'. Refute it at one input. -/
def topHintsJustifyWrong : ChangeSpec := { name := "topHintsJustify", fn := fun _ => fun
  | [d1, d2, d3] => { results := [.lit (.bool false)], args := [d1, d2, d3] }
  | _ => none }
def TopHintsJustifyWrongFalsely : Prop := topHintsJustifyRow.holds Try.pinned (OpenSpec.ofChange topHintsJustifyWrong)

/-- 'relyguardtop.TopTrimmedRefutes': WHATEVER THE INPUT: true; the input reads as it did. -/
def topTrimmedRefutesSpec : ChangeSpec := { name := "topTrimmedRefutes", fn := fun _ => fun
  | [d1, d2, d3] => { results := [.lit (.bool true)], args := [d1, d2, d3] }
  | _ => none }
def topTrimmedRefutesRow : OpenClaim := { program := "ytpmjdaiboniagaa", sum := "e4902c49926ec88e5150726dca75835bcdd6dc832911ce6cea55110d40380efe", func := "relyguard/relyguardtop.TopTrimmedRefutes", spec := "topTrimmedRefutes", unfollowed := true, recurses := true, apart := false }
def TopTrimmedRefutesSaid : Prop := topTrimmedRefutesRow.holds Try.pinned (OpenSpec.ofChange topTrimmedRefutesSpec)

/-- ITS FALSE NEIGHBOUR: 'it returns false'. Refute it at one input. -/
def topTrimmedRefutesWrong : ChangeSpec := { name := "topTrimmedRefutes", fn := fun _ => fun
  | [d1, d2, d3] => { results := [.lit (.bool false)], args := [d1, d2, d3] }
  | _ => none }
def TopTrimmedRefutesWrongFalsely : Prop := topTrimmedRefutesRow.holds Try.pinned (OpenSpec.ofChange topTrimmedRefutesWrong)

/- THE SECOND FORM. 'bulk': how many values and letters a reading holds, each counted each time it is reached (what is shared counts as often as it is met; a slice's spare places count too). A statement '..UptoSaid' is the law's where the arguments, and the package variables that the reading takes, are together of bulk at most 1048576: NARROWER than '..Said'. Prove '..Said' where nothing that the law and all that it calls make is longer than what came in: it says more and counts as full. Else prove '..UptoSaid'. A law counts once. -/
mutual
def uptoBulk {H : Type} : DataW H → Nat
  | .lit (.string bytes) => bytes.length + 1
  | .lit _ => 1
  | .nil => 1
  | .ptr d => uptoBulk d + 1
  | .slice elems spare => uptoBulkAll elems + uptoBulkAll spare + 1
  | .agg parts => uptoBulkAll parts + 1
  | .iface _ d => uptoBulk d + 1
  | .map entries => uptoBulkEntries entries + 1
  | .held _ => 1
def uptoBulkAll {H : Type} : List (DataW H) → Nat
  | [] => 0
  | d :: r => uptoBulk d + uptoBulkAll r
def uptoBulkEntries {H : Type} : List (Lit × DataW H) → Nat
  | [] => 0
  | x :: r => uptoBulkEntry x + uptoBulkEntries r
def uptoBulkEntry {H : Type} : Lit × DataW H → Nat
  | (.string bytes, d) => bytes.length + uptoBulk d + 1
  | (_, d) => uptoBulk d + 1
 end
def uptoSmall : (H : Type) → List (DataW H) → Bool := fun _ ds => decide (uptoBulkAll ds ≤ 1048576)
def OpenSpec.upto (s : _root_.Go.ChangeSpec) : _root_.Go.OpenSpec := { _root_.Go.OpenSpec.ofChange s with cond := some uptoSmall }

/-- 'relyguardlaw23.UnitpropMatchesReference', WHERE WHAT IT READS IS OF BULK AT MOST 1048576: true; the input reads as it did. -/
def unitpropMatchesReferenceUptoRow : OpenClaim := { program := "ytpmjdaiboniagaa", sum := "e4902c49926ec88e5150726dca75835bcdd6dc832911ce6cea55110d40380efe", func := "relyguard/relyguardlaw23.UnitpropMatchesReference", spec := "unitpropMatchesReference", unfollowed := true, recurses := true, apart := false, narrowed := true }
def UnitpropMatchesReferenceUptoSaid : Prop := unitpropMatchesReferenceUptoRow.holds Try.pinned (OpenSpec.upto unitpropMatchesReferenceSpec)

/-- 'relyguardlaw23.UnitpropSound', WHERE WHAT IT READS IS OF BULK AT MOST 1048576: true; the input reads as it did. -/
def unitpropSoundUptoRow : OpenClaim := { program := "ytpmjdaiboniagaa", sum := "e4902c49926ec88e5150726dca75835bcdd6dc832911ce6cea55110d40380efe", func := "relyguard/relyguardlaw23.UnitpropSound", spec := "unitpropSound", unfollowed := true, recurses := true, apart := false, narrowed := true }
def UnitpropSoundUptoSaid : Prop := unitpropSoundUptoRow.holds Try.pinned (OpenSpec.upto unitpropSoundSpec)

/-- 'relyguardlaw23.UnitpropClosed', WHERE WHAT IT READS IS OF BULK AT MOST 1048576: true; the input reads as it did. -/
def unitpropClosedUptoRow : OpenClaim := { program := "ytpmjdaiboniagaa", sum := "e4902c49926ec88e5150726dca75835bcdd6dc832911ce6cea55110d40380efe", func := "relyguard/relyguardlaw23.UnitpropClosed", spec := "unitpropClosed", unfollowed := true, recurses := true, apart := false, narrowed := true }
def UnitpropClosedUptoSaid : Prop := unitpropClosedUptoRow.holds Try.pinned (OpenSpec.upto unitpropClosedSpec)

/-- 'relyguardlaw23.UnitpropOrder', WHERE WHAT IT READS IS OF BULK AT MOST 1048576: true; the input reads as it did. -/
def unitpropOrderUptoRow : OpenClaim := { program := "ytpmjdaiboniagaa", sum := "e4902c49926ec88e5150726dca75835bcdd6dc832911ce6cea55110d40380efe", func := "relyguard/relyguardlaw23.UnitpropOrder", spec := "unitpropOrder", unfollowed := true, recurses := true, apart := false, narrowed := true }
def UnitpropOrderUptoSaid : Prop := unitpropOrderUptoRow.holds Try.pinned (OpenSpec.upto unitpropOrderSpec)

/-- 'relyguardlaw23.UnitpropReasons', WHERE WHAT IT READS IS OF BULK AT MOST 1048576: true; the input reads as it did. -/
def unitpropReasonsUptoRow : OpenClaim := { program := "ytpmjdaiboniagaa", sum := "e4902c49926ec88e5150726dca75835bcdd6dc832911ce6cea55110d40380efe", func := "relyguard/relyguardlaw23.UnitpropReasons", spec := "unitpropReasons", unfollowed := true, recurses := true, apart := false, narrowed := true }
def UnitpropReasonsUptoSaid : Prop := unitpropReasonsUptoRow.holds Try.pinned (OpenSpec.upto unitpropReasonsSpec)

/-- 'relyguardlaw23.UnitpropHints', WHERE WHAT IT READS IS OF BULK AT MOST 1048576: true; the input reads as it did. -/
def unitpropHintsUptoRow : OpenClaim := { program := "ytpmjdaiboniagaa", sum := "e4902c49926ec88e5150726dca75835bcdd6dc832911ce6cea55110d40380efe", func := "relyguard/relyguardlaw23.UnitpropHints", spec := "unitpropHints", unfollowed := true, recurses := true, apart := false, narrowed := true }
def UnitpropHintsUptoSaid : Prop := unitpropHintsUptoRow.holds Try.pinned (OpenSpec.upto unitpropHintsSpec)

/-- 'relyguardlaw23.UnitpropMonotonic', WHERE WHAT IT READS IS OF BULK AT MOST 1048576: true; the input reads as it did. -/
def unitpropMonotonicUptoRow : OpenClaim := { program := "ytpmjdaiboniagaa", sum := "e4902c49926ec88e5150726dca75835bcdd6dc832911ce6cea55110d40380efe", func := "relyguard/relyguardlaw23.UnitpropMonotonic", spec := "unitpropMonotonic", unfollowed := true, recurses := true, apart := false, narrowed := true }
def UnitpropMonotonicUptoSaid : Prop := unitpropMonotonicUptoRow.holds Try.pinned (OpenSpec.upto unitpropMonotonicSpec)

/-- 'relyguardlaw26.CheckerMatchesReference', WHERE WHAT IT READS IS OF BULK AT MOST 1048576: true; the input reads as it did. -/
def checkerMatchesReferenceUptoRow : OpenClaim := { program := "ytpmjdaiboniagaa", sum := "e4902c49926ec88e5150726dca75835bcdd6dc832911ce6cea55110d40380efe", func := "relyguard/relyguardlaw26.CheckerMatchesReference", spec := "checkerMatchesReference", unfollowed := true, recurses := true, apart := false, narrowed := true }
def CheckerMatchesReferenceUptoSaid : Prop := checkerMatchesReferenceUptoRow.holds Try.pinned (OpenSpec.upto checkerMatchesReferenceSpec)

/-- 'relyguardlaw26.CheckerSound', WHERE WHAT IT READS IS OF BULK AT MOST 1048576: true; the input reads as it did. -/
def checkerSoundUptoRow : OpenClaim := { program := "ytpmjdaiboniagaa", sum := "e4902c49926ec88e5150726dca75835bcdd6dc832911ce6cea55110d40380efe", func := "relyguard/relyguardlaw26.CheckerSound", spec := "checkerSound", unfollowed := true, recurses := true, apart := false, narrowed := true }
def CheckerSoundUptoSaid : Prop := checkerSoundUptoRow.holds Try.pinned (OpenSpec.upto checkerSoundSpec)

/-- 'relyguardlaw26.CheckerSteps', WHERE WHAT IT READS IS OF BULK AT MOST 1048576: true; the input reads as it did. -/
def checkerStepsUptoRow : OpenClaim := { program := "ytpmjdaiboniagaa", sum := "e4902c49926ec88e5150726dca75835bcdd6dc832911ce6cea55110d40380efe", func := "relyguard/relyguardlaw26.CheckerSteps", spec := "checkerSteps", unfollowed := true, recurses := true, apart := false, narrowed := true }
def CheckerStepsUptoSaid : Prop := checkerStepsUptoRow.holds Try.pinned (OpenSpec.upto checkerStepsSpec)

/-- 'relyguardlaw26.CheckerMoreClauses', WHERE WHAT IT READS IS OF BULK AT MOST 1048576: true; the input reads as it did. -/
def checkerMoreClausesUptoRow : OpenClaim := { program := "ytpmjdaiboniagaa", sum := "e4902c49926ec88e5150726dca75835bcdd6dc832911ce6cea55110d40380efe", func := "relyguard/relyguardlaw26.CheckerMoreClauses", spec := "checkerMoreClauses", unfollowed := true, recurses := true, apart := false, narrowed := true }
def CheckerMoreClausesUptoSaid : Prop := checkerMoreClausesUptoRow.holds Try.pinned (OpenSpec.upto checkerMoreClausesSpec)

/-- 'relyguardlaw26.CheckerRenaming', WHERE WHAT IT READS IS OF BULK AT MOST 1048576: true; the input reads as it did. -/
def checkerRenamingUptoRow : OpenClaim := { program := "ytpmjdaiboniagaa", sum := "e4902c49926ec88e5150726dca75835bcdd6dc832911ce6cea55110d40380efe", func := "relyguard/relyguardlaw26.CheckerRenaming", spec := "checkerRenaming", unfollowed := true, recurses := true, apart := false, narrowed := true }
def CheckerRenamingUptoSaid : Prop := checkerRenamingUptoRow.holds Try.pinned (OpenSpec.upto checkerRenamingSpec)

/-- 'relyguardlaw26.CheckerOrder', WHERE WHAT IT READS IS OF BULK AT MOST 1048576: true; the input reads as it did. -/
def checkerOrderUptoRow : OpenClaim := { program := "ytpmjdaiboniagaa", sum := "e4902c49926ec88e5150726dca75835bcdd6dc832911ce6cea55110d40380efe", func := "relyguard/relyguardlaw26.CheckerOrder", spec := "checkerOrder", unfollowed := true, recurses := true, apart := false, narrowed := true }
def CheckerOrderUptoSaid : Prop := checkerOrderUptoRow.holds Try.pinned (OpenSpec.upto checkerOrderSpec)

/-- 'relyguardlaw26.CheckerTampering', WHERE WHAT IT READS IS OF BULK AT MOST 1048576: true; the input reads as it did. -/
def checkerTamperingUptoRow : OpenClaim := { program := "ytpmjdaiboniagaa", sum := "e4902c49926ec88e5150726dca75835bcdd6dc832911ce6cea55110d40380efe", func := "relyguard/relyguardlaw26.CheckerTampering", spec := "checkerTampering", unfollowed := true, recurses := true, apart := false, narrowed := true }
def CheckerTamperingUptoSaid : Prop := checkerTamperingUptoRow.holds Try.pinned (OpenSpec.upto checkerTamperingSpec)

/-- 'relyguardtop.TopHintsJustify', WHERE WHAT IT READS IS OF BULK AT MOST 1048576: true; the input reads as it did. -/
def topHintsJustifyUptoRow : OpenClaim := { program := "ytpmjdaiboniagaa", sum := "e4902c49926ec88e5150726dca75835bcdd6dc832911ce6cea55110d40380efe", func := "relyguard/relyguardtop.TopHintsJustify", spec := "topHintsJustify", unfollowed := true, recurses := true, apart := false, narrowed := true }
def TopHintsJustifyUptoSaid : Prop := topHintsJustifyUptoRow.holds Try.pinned (OpenSpec.upto topHintsJustifySpec)

/-- 'relyguardtop.TopTrimmedRefutes', WHERE WHAT IT READS IS OF BULK AT MOST 1048576: true; the input reads as it did. -/
def topTrimmedRefutesUptoRow : OpenClaim := { program := "ytpmjdaiboniagaa", sum := "e4902c49926ec88e5150726dca75835bcdd6dc832911ce6cea55110d40380efe", func := "relyguard/relyguardtop.TopTrimmedRefutes", spec := "topTrimmedRefutes", unfollowed := true, recurses := true, apart := false, narrowed := true }
def TopTrimmedRefutesUptoSaid : Prop := topTrimmedRefutesUptoRow.holds Try.pinned (OpenSpec.upto topTrimmedRefutesSpec)

end Rows
end Go.Proofs.Ytpmjdaiboniagaa
