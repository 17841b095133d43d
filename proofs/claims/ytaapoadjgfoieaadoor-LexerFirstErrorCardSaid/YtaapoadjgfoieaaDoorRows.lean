/-
  NARROWER THAN 'FOR EVERY INPUT', by the rows' own cells (each row's printed sentence says how): LexerMatchesReference: laid · LexerCoverage: laid · LexerLayout: laid · LexerConcat: laid · LexerFirstError: laid · LexerLongest: laid · LexerLimits: laid.
  DERIVED. THE GIVEN ROWS OF THIS SEAT. 7 by the template 'for every input the law returns true; each argument reads behind the call as it read before'; 0 by the template 'total and deterministic' (their statements: YtaapoadjgfoieaaDoorTotals.lean).
  GIVEN WITH THE SEED: the statements are not yours to turn. If you find one false, say at which input.
  Laid BY PROGRAM, IN A SANDBOX (cutbox-rows.mjs): the forced cells as the released guide's own fill.sh prints them over the translation 6c678443821855a1… (all of the seat's roots in one cut). By AI agents, Wed Nov 11 2026. No macro, syntax, notation, axiom, sorry.
-/
import Derived.Test.YtaapoadjgfoieaaDoorChecked
import GoSem.Claim
import GoSem.ClaimJoined
import GoSem.ClaimMapViews
import Derived.JoinedTies
import Derived.KernelRfl
namespace Go.Proofs.YtaapoadjgfoieaaDoor
/- THE CELL 'sum', in the pinned program and in every row, IS THE sha256 OF THE DUMP (.gsa) THAT YtaapoadjgfoieaaDoorProg.lean LOADS. Nothing in Lean hashes anything: it is a label: what it is worth is what the hold of that sum in a sandbox is worth. -/
noncomputable def Tryd.pinned : Pinned := { name := "ytaapoadjgfoieaadoor", sum := "6c678443821855a1d5fcd743d14b312a10591c17451b3bf429f8cada56065074", checked := Tryd.checked }
namespace Rows
def none {H : Type} : Left H := { results := [], args := [] }

/- WHAT THE LISTED PACKAGE-LEVEL VARIABLES READ AS WHEN THE CALL BEGINS. Each datum BY PROGRAM (the guide's laid-datum.mjs) off the statement by which the dump's own 'gosem.cut.vars' lays the variable. In a bare row this is a premise. The card (YtaapoadjgfoieaaDoorCards.lean) ties it to the program's text. -/
def laid_relyguard_lexer_symbols {H : Type} : DataW H := .agg [.lit (.string [61, 61, 62]), .lit (.string [61, 61]), .lit (.string [58, 61]), .lit (.string [33, 61]), .lit (.string [60, 61]), .lit (.string [38, 38]), .lit (.string [124, 124]), .lit (.string [123]), .lit (.string [125]), .lit (.string [40]), .lit (.string [41]), .lit (.string [91]), .lit (.string [93]), .lit (.string [59]), .lit (.string [58]), .lit (.string [44]), .lit (.string [46]), .lit (.string [63]), .lit (.string [61]), .lit (.string [33]), .lit (.string [60]), .lit (.string [38]), .lit (.string [124]), .lit (.string [94]), .lit (.string [43]), .lit (.string [45]), .lit (.string [42])]

/-- 'relyguardlaw01.LexerMatchesReference': WHATEVER THE INPUT: true; the input reads as it did. -/
def lexerMatchesReferenceSpec : ChangeSpec := { name := "lexerMatchesReference", fn := fun _ => fun
  | [d] => { results := [.lit (.bool true)], args := [d] }
  | _ => none }
def lexerMatchesReferenceRow : OpenClaim := { program := "ytaapoadjgfoieaadoor", sum := "6c678443821855a1d5fcd743d14b312a10591c17451b3bf429f8cada56065074", func := "relyguard/relyguardlaw01.LexerMatchesReference", spec := "lexerMatchesReference", unfollowed := true, recurses := true, named := ["relyguard/lexer.symbols"], apart := false, laid := [("relyguard/lexer.symbols", laid_relyguard_lexer_symbols)] }
def LexerMatchesReferenceSaid : Prop := lexerMatchesReferenceRow.holds Tryd.pinned (OpenSpec.ofChange lexerMatchesReferenceSpec)

/-- ITS FALSE NEIGHBOUR: 'it returns false'. Refute it at one input. -/
def lexerMatchesReferenceWrong : ChangeSpec := { name := "lexerMatchesReference", fn := fun _ => fun
  | [d] => { results := [.lit (.bool false)], args := [d] }
  | _ => none }
def LexerMatchesReferenceWrongFalsely : Prop := lexerMatchesReferenceRow.holds Tryd.pinned (OpenSpec.ofChange lexerMatchesReferenceWrong)

/-- 'relyguardlaw01.LexerCoverage': WHATEVER THE INPUT: true; the input reads as it did. -/
def lexerCoverageSpec : ChangeSpec := { name := "lexerCoverage", fn := fun _ => fun
  | [d] => { results := [.lit (.bool true)], args := [d] }
  | _ => none }
def lexerCoverageRow : OpenClaim := { program := "ytaapoadjgfoieaadoor", sum := "6c678443821855a1d5fcd743d14b312a10591c17451b3bf429f8cada56065074", func := "relyguard/relyguardlaw01.LexerCoverage", spec := "lexerCoverage", unfollowed := true, recurses := true, named := ["relyguard/lexer.symbols"], apart := false, laid := [("relyguard/lexer.symbols", laid_relyguard_lexer_symbols)] }
def LexerCoverageSaid : Prop := lexerCoverageRow.holds Tryd.pinned (OpenSpec.ofChange lexerCoverageSpec)

/-- ITS FALSE NEIGHBOUR: 'it returns false'. Refute it at one input. -/
def lexerCoverageWrong : ChangeSpec := { name := "lexerCoverage", fn := fun _ => fun
  | [d] => { results := [.lit (.bool false)], args := [d] }
  | _ => none }
def LexerCoverageWrongFalsely : Prop := lexerCoverageRow.holds Tryd.pinned (OpenSpec.ofChange lexerCoverageWrong)

/-- 'relyguardlaw01.LexerLayout': WHATEVER THE INPUT: true; the input reads as it did. -/
def lexerLayoutSpec : ChangeSpec := { name := "lexerLayout", fn := fun _ => fun
  | [d1, d2] => { results := [.lit (.bool true)], args := [d1, d2] }
  | _ => none }
def lexerLayoutRow : OpenClaim := { program := "ytaapoadjgfoieaadoor", sum := "6c678443821855a1d5fcd743d14b312a10591c17451b3bf429f8cada56065074", func := "relyguard/relyguardlaw01.LexerLayout", spec := "lexerLayout", unfollowed := true, recurses := true, named := ["relyguard/lexer.symbols"], apart := false, laid := [("relyguard/lexer.symbols", laid_relyguard_lexer_symbols)] }
def LexerLayoutSaid : Prop := lexerLayoutRow.holds Tryd.pinned (OpenSpec.ofChange lexerLayoutSpec)

/-- ITS FALSE NEIGHBOUR: 'it returns false'. Refute it at one input. -/
def lexerLayoutWrong : ChangeSpec := { name := "lexerLayout", fn := fun _ => fun
  | [d1, d2] => { results := [.lit (.bool false)], args := [d1, d2] }
  | _ => none }
def LexerLayoutWrongFalsely : Prop := lexerLayoutRow.holds Tryd.pinned (OpenSpec.ofChange lexerLayoutWrong)

/-- 'relyguardlaw01.LexerConcat': WHATEVER THE INPUT: true; the input reads as it did. -/
def lexerConcatSpec : ChangeSpec := { name := "lexerConcat", fn := fun _ => fun
  | [d1, d2] => { results := [.lit (.bool true)], args := [d1, d2] }
  | _ => none }
def lexerConcatRow : OpenClaim := { program := "ytaapoadjgfoieaadoor", sum := "6c678443821855a1d5fcd743d14b312a10591c17451b3bf429f8cada56065074", func := "relyguard/relyguardlaw01.LexerConcat", spec := "lexerConcat", unfollowed := true, recurses := true, named := ["relyguard/lexer.symbols"], apart := false, laid := [("relyguard/lexer.symbols", laid_relyguard_lexer_symbols)] }
def LexerConcatSaid : Prop := lexerConcatRow.holds Tryd.pinned (OpenSpec.ofChange lexerConcatSpec)

/-- ITS FALSE NEIGHBOUR: 'it returns false'. Refute it at one input. -/
def lexerConcatWrong : ChangeSpec := { name := "lexerConcat", fn := fun _ => fun
  | [d1, d2] => { results := [.lit (.bool false)], args := [d1, d2] }
  | _ => none }
def LexerConcatWrongFalsely : Prop := lexerConcatRow.holds Tryd.pinned (OpenSpec.ofChange lexerConcatWrong)

/-- 'relyguardlaw01.LexerFirstError': WHATEVER THE INPUT: true; the input reads as it did. -/
def lexerFirstErrorSpec : ChangeSpec := { name := "lexerFirstError", fn := fun _ => fun
  | [d] => { results := [.lit (.bool true)], args := [d] }
  | _ => none }
def lexerFirstErrorRow : OpenClaim := { program := "ytaapoadjgfoieaadoor", sum := "6c678443821855a1d5fcd743d14b312a10591c17451b3bf429f8cada56065074", func := "relyguard/relyguardlaw01.LexerFirstError", spec := "lexerFirstError", unfollowed := true, recurses := true, named := ["relyguard/lexer.symbols"], apart := false, laid := [("relyguard/lexer.symbols", laid_relyguard_lexer_symbols)] }
def LexerFirstErrorSaid : Prop := lexerFirstErrorRow.holds Tryd.pinned (OpenSpec.ofChange lexerFirstErrorSpec)

/-- ITS FALSE NEIGHBOUR: 'it returns false'. Refute it at one input. -/
def lexerFirstErrorWrong : ChangeSpec := { name := "lexerFirstError", fn := fun _ => fun
  | [d] => { results := [.lit (.bool false)], args := [d] }
  | _ => none }
def LexerFirstErrorWrongFalsely : Prop := lexerFirstErrorRow.holds Tryd.pinned (OpenSpec.ofChange lexerFirstErrorWrong)

/-- 'relyguardlaw01.LexerLongest': WHATEVER THE INPUT: true; the input reads as it did. -/
def lexerLongestSpec : ChangeSpec := { name := "lexerLongest", fn := fun _ => fun
  | [d1, d2] => { results := [.lit (.bool true)], args := [d1, d2] }
  | _ => none }
def lexerLongestRow : OpenClaim := { program := "ytaapoadjgfoieaadoor", sum := "6c678443821855a1d5fcd743d14b312a10591c17451b3bf429f8cada56065074", func := "relyguard/relyguardlaw01.LexerLongest", spec := "lexerLongest", unfollowed := true, recurses := true, named := ["relyguard/lexer.symbols"], apart := false, laid := [("relyguard/lexer.symbols", laid_relyguard_lexer_symbols)] }
def LexerLongestSaid : Prop := lexerLongestRow.holds Tryd.pinned (OpenSpec.ofChange lexerLongestSpec)

/-- ITS FALSE NEIGHBOUR: 'it returns false'. Refute it at one input. -/
def lexerLongestWrong : ChangeSpec := { name := "lexerLongest", fn := fun _ => fun
  | [d1, d2] => { results := [.lit (.bool false)], args := [d1, d2] }
  | _ => none }
def LexerLongestWrongFalsely : Prop := lexerLongestRow.holds Tryd.pinned (OpenSpec.ofChange lexerLongestWrong)

/-- 'relyguardlaw01.LexerLimits': WHATEVER THE INPUT: true; the input reads as it did. -/
def lexerLimitsSpec : ChangeSpec := { name := "lexerLimits", fn := fun _ => fun
  | [d1, d2] => { results := [.lit (.bool true)], args := [d1, d2] }
  | _ => none }
def lexerLimitsRow : OpenClaim := { program := "ytaapoadjgfoieaadoor", sum := "6c678443821855a1d5fcd743d14b312a10591c17451b3bf429f8cada56065074", func := "relyguard/relyguardlaw01.LexerLimits", spec := "lexerLimits", unfollowed := true, recurses := true, named := ["relyguard/lexer.symbols"], apart := false, laid := [("relyguard/lexer.symbols", laid_relyguard_lexer_symbols)] }
def LexerLimitsSaid : Prop := lexerLimitsRow.holds Tryd.pinned (OpenSpec.ofChange lexerLimitsSpec)

/-- ITS FALSE NEIGHBOUR: 'it returns false'. Refute it at one input. -/
def lexerLimitsWrong : ChangeSpec := { name := "lexerLimits", fn := fun _ => fun
  | [d1, d2] => { results := [.lit (.bool false)], args := [d1, d2] }
  | _ => none }
def LexerLimitsWrongFalsely : Prop := lexerLimitsRow.holds Tryd.pinned (OpenSpec.ofChange lexerLimitsWrong)

/- THE SECOND FORM. 'bulk': how many values and letters a reading holds, each counted each time it is reached (what is shared counts as often as it is met; a slice's spare places count too). A statement '..UptoSaid' is the law's where the arguments, and the package variables that the reading takes, are together of bulk at most 1048576: NARROWER than '..Said'. Prove '..Said' where nothing that the law and all that it calls make is longer than what came in: it says more and counts as full. Else prove '..UptoSaid'. A law counts once. -/
mutual
def uptoBulk {H : Type} : DataW H → Nat
  | .lit (.string bytes) => bytes.length + 1
  | .lit _ => 1
  | .nil => 1
  | .ptr d => uptoBulk d + 1
  | .slice elems spare => uptoBulkAll elems + uptoBulkAll spare + 1
  | .agg parts => uptoBulkAll parts + 1
  | .iface _ d => uptoBulk d + 1
  | .map entries => uptoBulkEntries entries + 1
  | .held _ => 1
def uptoBulkAll {H : Type} : List (DataW H) → Nat
  | [] => 0
  | d :: r => uptoBulk d + uptoBulkAll r
def uptoBulkEntries {H : Type} : List (Lit × DataW H) → Nat
  | [] => 0
  | x :: r => uptoBulkEntry x + uptoBulkEntries r
def uptoBulkEntry {H : Type} : Lit × DataW H → Nat
  | (.string bytes, d) => bytes.length + uptoBulk d + 1
  | (_, d) => uptoBulk d + 1
 end
def uptoSmall : (H : Type) → List (DataW H) → Bool := fun _ ds => decide (uptoBulkAll ds ≤ 1048576)
def OpenSpec.upto (s : _root_.Go.ChangeSpec) : _root_.Go.OpenSpec := { _root_.Go.OpenSpec.ofChange s with cond := some uptoSmall }

/-- 'relyguardlaw01.LexerMatchesReference', WHERE WHAT IT READS IS OF BULK AT MOST 1048576: true; the input reads as it did. -/
def lexerMatchesReferenceUptoRow : OpenClaim := { program := "ytaapoadjgfoieaadoor", sum := "6c678443821855a1d5fcd743d14b312a10591c17451b3bf429f8cada56065074", func := "relyguard/relyguardlaw01.LexerMatchesReference", spec := "lexerMatchesReference", unfollowed := true, recurses := true, named := ["relyguard/lexer.symbols"], apart := false, laid := [("relyguard/lexer.symbols", laid_relyguard_lexer_symbols)], narrowed := true }
def LexerMatchesReferenceUptoSaid : Prop := lexerMatchesReferenceUptoRow.holds Tryd.pinned (OpenSpec.upto lexerMatchesReferenceSpec)

/-- 'relyguardlaw01.LexerCoverage', WHERE WHAT IT READS IS OF BULK AT MOST 1048576: true; the input reads as it did. -/
def lexerCoverageUptoRow : OpenClaim := { program := "ytaapoadjgfoieaadoor", sum := "6c678443821855a1d5fcd743d14b312a10591c17451b3bf429f8cada56065074", func := "relyguard/relyguardlaw01.LexerCoverage", spec := "lexerCoverage", unfollowed := true, recurses := true, named := ["relyguard/lexer.symbols"], apart := false, laid := [("relyguard/lexer.symbols", laid_relyguard_lexer_symbols)], narrowed := true }
def LexerCoverageUptoSaid : Prop := lexerCoverageUptoRow.holds Tryd.pinned (OpenSpec.upto lexerCoverageSpec)

/-- 'relyguardlaw01.LexerLayout', WHERE WHAT IT READS IS OF BULK AT MOST 1048576: true; the input reads as it did. -/
def lexerLayoutUptoRow : OpenClaim := { program := "ytaapoadjgfoieaadoor", sum := "6c678443821855a1d5fcd743d14b312a10591c17451b3bf429f8cada56065074", func := "relyguard/relyguardlaw01.LexerLayout", spec := "lexerLayout", unfollowed := true, recurses := true, named := ["relyguard/lexer.symbols"], apart := false, laid := [("relyguard/lexer.symbols", laid_relyguard_lexer_symbols)], narrowed := true }
def LexerLayoutUptoSaid : Prop := lexerLayoutUptoRow.holds Tryd.pinned (OpenSpec.upto lexerLayoutSpec)

/-- 'relyguardlaw01.LexerConcat', WHERE WHAT IT READS IS OF BULK AT MOST 1048576: true; the input reads as it did. -/
def lexerConcatUptoRow : OpenClaim := { program := "ytaapoadjgfoieaadoor", sum := "6c678443821855a1d5fcd743d14b312a10591c17451b3bf429f8cada56065074", func := "relyguard/relyguardlaw01.LexerConcat", spec := "lexerConcat", unfollowed := true, recurses := true, named := ["relyguard/lexer.symbols"], apart := false, laid := [("relyguard/lexer.symbols", laid_relyguard_lexer_symbols)], narrowed := true }
def LexerConcatUptoSaid : Prop := lexerConcatUptoRow.holds Tryd.pinned (OpenSpec.upto lexerConcatSpec)

/-- 'relyguardlaw01.LexerFirstError', WHERE WHAT IT READS IS OF BULK AT MOST 1048576: true; the input reads as it did. -/
def lexerFirstErrorUptoRow : OpenClaim := { program := "ytaapoadjgfoieaadoor", sum := "6c678443821855a1d5fcd743d14b312a10591c17451b3bf429f8cada56065074", func := "relyguard/relyguardlaw01.LexerFirstError", spec := "lexerFirstError", unfollowed := true, recurses := true, named := ["relyguard/lexer.symbols"], apart := false, laid := [("relyguard/lexer.symbols", laid_relyguard_lexer_symbols)], narrowed := true }
def LexerFirstErrorUptoSaid : Prop := lexerFirstErrorUptoRow.holds Tryd.pinned (OpenSpec.upto lexerFirstErrorSpec)

/-- 'relyguardlaw01.LexerLongest', WHERE WHAT IT READS IS OF BULK AT MOST 1048576: true; the input reads as it did. -/
def lexerLongestUptoRow : OpenClaim := { program := "ytaapoadjgfoieaadoor", sum := "6c678443821855a1d5fcd743d14b312a10591c17451b3bf429f8cada56065074", func := "relyguard/relyguardlaw01.LexerLongest", spec := "lexerLongest", unfollowed := true, recurses := true, named := ["relyguard/lexer.symbols"], apart := false, laid := [("relyguard/lexer.symbols", laid_relyguard_lexer_symbols)], narrowed := true }
def LexerLongestUptoSaid : Prop := lexerLongestUptoRow.holds Tryd.pinned (OpenSpec.upto lexerLongestSpec)

/-- 'relyguardlaw01.LexerLimits', WHERE WHAT IT READS IS OF BULK AT MOST 1048576: true; the input reads as it did. -/
def lexerLimitsUptoRow : OpenClaim := { program := "ytaapoadjgfoieaadoor", sum := "6c678443821855a1d5fcd743d14b312a10591c17451b3bf429f8cada56065074", func := "relyguard/relyguardlaw01.LexerLimits", spec := "lexerLimits", unfollowed := true, recurses := true, named := ["relyguard/lexer.symbols"], apart := false, laid := [("relyguard/lexer.symbols", laid_relyguard_lexer_symbols)], narrowed := true }
def LexerLimitsUptoSaid : Prop := lexerLimitsUptoRow.holds Tryd.pinned (OpenSpec.upto lexerLimitsSpec)

end Rows
end Go.Proofs.YtaapoadjgfoieaaDoor
