/-
  DERIVED. GIVEN WITH THE SEED: THE CARDS: each row of YtaapoadjgfoieaaDoorRows.lean that lists a variable, with what it lists TIED to the program's text (the seventh form; the later family's looks); each row that meets fmt, with fmt's text TOLD by the authors' own Lean function (tested against real Go, not proved from fmt's source: count such statements apart). THE CARD IS WHAT COUNTS. Prove the row's statement (the work); the ties are given (YtaapoadjgfoieaaDoorTie.lean); close each card by the builder's one call (the guide's Derived/Test/ToyasCard.lean, 'card_holds'). Laid BY PROGRAM, IN A SANDBOX (cutbox-door.mjs). By AI agents, Wed Nov 11 2026. No macro, syntax, notation, axiom, sorry.
-/
import Derived.Test.YtaapoadjgfoieaaDoorRows
import GoSem.ClaimSeven
namespace Go.Proofs.YtaapoadjgfoieaaDoor
namespace Rows

/-- THE TIED CARD OF 'relyguardlaw01.LexerMatchesReference'. -/
def lexerMatchesReferenceCard : Claim7 := { stood := { row := lexerMatchesReferenceRow, standIns := [], harness := (true, "9fe6de2c956adbeeefd64925d630ad7d573b074506a07eb6d1b693546ac9ea40"), looks := false }, kinds := [], alts := [], laidByText := true, laidKinds := [.data], laidTests := true, laidLooks := .later }
def LexerMatchesReferenceCardSaid : Prop := Claim7.holds Tryd.pinned (.plain (OpenSpec.ofChange lexerMatchesReferenceSpec)) lexerMatchesReferenceCard

/-- THE TIED CARD OF 'relyguardlaw01.LexerCoverage'. -/
def lexerCoverageCard : Claim7 := { stood := { row := lexerCoverageRow, standIns := [], harness := (true, "9fe6de2c956adbeeefd64925d630ad7d573b074506a07eb6d1b693546ac9ea40"), looks := false }, kinds := [], alts := [], laidByText := true, laidKinds := [.data], laidTests := true, laidLooks := .later }
def LexerCoverageCardSaid : Prop := Claim7.holds Tryd.pinned (.plain (OpenSpec.ofChange lexerCoverageSpec)) lexerCoverageCard

/-- THE TIED CARD OF 'relyguardlaw01.LexerLayout'. -/
def lexerLayoutCard : Claim7 := { stood := { row := lexerLayoutRow, standIns := [], harness := (true, "9fe6de2c956adbeeefd64925d630ad7d573b074506a07eb6d1b693546ac9ea40"), looks := false }, kinds := [], alts := [], laidByText := true, laidKinds := [.data], laidTests := true, laidLooks := .later }
def LexerLayoutCardSaid : Prop := Claim7.holds Tryd.pinned (.plain (OpenSpec.ofChange lexerLayoutSpec)) lexerLayoutCard

/-- THE TIED CARD OF 'relyguardlaw01.LexerConcat'. -/
def lexerConcatCard : Claim7 := { stood := { row := lexerConcatRow, standIns := [], harness := (true, "9fe6de2c956adbeeefd64925d630ad7d573b074506a07eb6d1b693546ac9ea40"), looks := false }, kinds := [], alts := [], laidByText := true, laidKinds := [.data], laidTests := true, laidLooks := .later }
def LexerConcatCardSaid : Prop := Claim7.holds Tryd.pinned (.plain (OpenSpec.ofChange lexerConcatSpec)) lexerConcatCard

/-- THE TIED CARD OF 'relyguardlaw01.LexerFirstError'. -/
def lexerFirstErrorCard : Claim7 := { stood := { row := lexerFirstErrorRow, standIns := [], harness := (true, "9fe6de2c956adbeeefd64925d630ad7d573b074506a07eb6d1b693546ac9ea40"), looks := false }, kinds := [], alts := [], laidByText := true, laidKinds := [.data], laidTests := true, laidLooks := .later }
def LexerFirstErrorCardSaid : Prop := Claim7.holds Tryd.pinned (.plain (OpenSpec.ofChange lexerFirstErrorSpec)) lexerFirstErrorCard

/-- THE TIED CARD OF 'relyguardlaw01.LexerLongest'. -/
def lexerLongestCard : Claim7 := { stood := { row := lexerLongestRow, standIns := [], harness := (true, "9fe6de2c956adbeeefd64925d630ad7d573b074506a07eb6d1b693546ac9ea40"), looks := false }, kinds := [], alts := [], laidByText := true, laidKinds := [.data], laidTests := true, laidLooks := .later }
def LexerLongestCardSaid : Prop := Claim7.holds Tryd.pinned (.plain (OpenSpec.ofChange lexerLongestSpec)) lexerLongestCard

/-- THE TIED CARD OF 'relyguardlaw01.LexerLimits'. -/
def lexerLimitsCard : Claim7 := { stood := { row := lexerLimitsRow, standIns := [], harness := (true, "9fe6de2c956adbeeefd64925d630ad7d573b074506a07eb6d1b693546ac9ea40"), looks := false }, kinds := [], alts := [], laidByText := true, laidKinds := [.data], laidTests := true, laidLooks := .later }
def LexerLimitsCardSaid : Prop := Claim7.holds Tryd.pinned (.plain (OpenSpec.ofChange lexerLimitsSpec)) lexerLimitsCard

/-- THE SECOND FORM's CARD OF 'relyguardlaw01.LexerMatchesReference'. -/
def lexerMatchesReferenceUptoCard : Claim7 := { stood := { row := lexerMatchesReferenceUptoRow, standIns := [], harness := (true, "9fe6de2c956adbeeefd64925d630ad7d573b074506a07eb6d1b693546ac9ea40"), looks := false }, kinds := [], alts := [], laidByText := true, laidKinds := [.data], laidTests := true, laidLooks := .later }
def LexerMatchesReferenceUptoCardSaid : Prop := Claim7.holds Tryd.pinned (.plain (OpenSpec.upto lexerMatchesReferenceSpec)) lexerMatchesReferenceUptoCard

/-- THE SECOND FORM's CARD OF 'relyguardlaw01.LexerCoverage'. -/
def lexerCoverageUptoCard : Claim7 := { stood := { row := lexerCoverageUptoRow, standIns := [], harness := (true, "9fe6de2c956adbeeefd64925d630ad7d573b074506a07eb6d1b693546ac9ea40"), looks := false }, kinds := [], alts := [], laidByText := true, laidKinds := [.data], laidTests := true, laidLooks := .later }
def LexerCoverageUptoCardSaid : Prop := Claim7.holds Tryd.pinned (.plain (OpenSpec.upto lexerCoverageSpec)) lexerCoverageUptoCard

/-- THE SECOND FORM's CARD OF 'relyguardlaw01.LexerLayout'. -/
def lexerLayoutUptoCard : Claim7 := { stood := { row := lexerLayoutUptoRow, standIns := [], harness := (true, "9fe6de2c956adbeeefd64925d630ad7d573b074506a07eb6d1b693546ac9ea40"), looks := false }, kinds := [], alts := [], laidByText := true, laidKinds := [.data], laidTests := true, laidLooks := .later }
def LexerLayoutUptoCardSaid : Prop := Claim7.holds Tryd.pinned (.plain (OpenSpec.upto lexerLayoutSpec)) lexerLayoutUptoCard

/-- THE SECOND FORM's CARD OF 'relyguardlaw01.LexerConcat'. -/
def lexerConcatUptoCard : Claim7 := { stood := { row := lexerConcatUptoRow, standIns := [], harness := (true, "9fe6de2c956adbeeefd64925d630ad7d573b074506a07eb6d1b693546ac9ea40"), looks := false }, kinds := [], alts := [], laidByText := true, laidKinds := [.data], laidTests := true, laidLooks := .later }
def LexerConcatUptoCardSaid : Prop := Claim7.holds Tryd.pinned (.plain (OpenSpec.upto lexerConcatSpec)) lexerConcatUptoCard

/-- THE SECOND FORM's CARD OF 'relyguardlaw01.LexerFirstError'. -/
def lexerFirstErrorUptoCard : Claim7 := { stood := { row := lexerFirstErrorUptoRow, standIns := [], harness := (true, "9fe6de2c956adbeeefd64925d630ad7d573b074506a07eb6d1b693546ac9ea40"), looks := false }, kinds := [], alts := [], laidByText := true, laidKinds := [.data], laidTests := true, laidLooks := .later }
def LexerFirstErrorUptoCardSaid : Prop := Claim7.holds Tryd.pinned (.plain (OpenSpec.upto lexerFirstErrorSpec)) lexerFirstErrorUptoCard

/-- THE SECOND FORM's CARD OF 'relyguardlaw01.LexerLongest'. -/
def lexerLongestUptoCard : Claim7 := { stood := { row := lexerLongestUptoRow, standIns := [], harness := (true, "9fe6de2c956adbeeefd64925d630ad7d573b074506a07eb6d1b693546ac9ea40"), looks := false }, kinds := [], alts := [], laidByText := true, laidKinds := [.data], laidTests := true, laidLooks := .later }
def LexerLongestUptoCardSaid : Prop := Claim7.holds Tryd.pinned (.plain (OpenSpec.upto lexerLongestSpec)) lexerLongestUptoCard

/-- THE SECOND FORM's CARD OF 'relyguardlaw01.LexerLimits'. -/
def lexerLimitsUptoCard : Claim7 := { stood := { row := lexerLimitsUptoRow, standIns := [], harness := (true, "9fe6de2c956adbeeefd64925d630ad7d573b074506a07eb6d1b693546ac9ea40"), looks := false }, kinds := [], alts := [], laidByText := true, laidKinds := [.data], laidTests := true, laidLooks := .later }
def LexerLimitsUptoCardSaid : Prop := Claim7.holds Tryd.pinned (.plain (OpenSpec.upto lexerLimitsSpec)) lexerLimitsUptoCard
end Rows
end Go.Proofs.YtaapoadjgfoieaaDoor
