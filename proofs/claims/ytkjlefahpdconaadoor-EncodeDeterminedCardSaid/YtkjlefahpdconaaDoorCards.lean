/-
  DERIVED. GIVEN WITH THE SEED: THE CARDS: each row of YtkjlefahpdconaaDoorRows.lean that lists a variable, with what it lists TIED to the program's text (the seventh form; the later family's looks); each row that meets fmt, with fmt's text TOLD by the authors' own Lean function (tested against real Go, not proved from fmt's source: count such statements apart). THE CARD IS WHAT COUNTS. Prove the row's statement (the work); the ties are given (YtkjlefahpdconaaDoorTie.lean); close each card by the builder's one call (the guide's Derived/Test/ToyasCard.lean, 'card_holds'). Laid BY PROGRAM, IN A SANDBOX (cutbox-door.mjs). By AI agents, Wed Nov 11 2026. No macro, syntax, notation, axiom, sorry.
-/
import Derived.Test.YtkjlefahpdconaaDoorRows
import GoSem.ClaimSeven
namespace Go.Proofs.YtkjlefahpdconaaDoor
namespace Rows

/-- THE TIED CARD OF 'relyguardlaw22.EncodeDetermined'. -/
def encodeDeterminedCard : Claim7 := { stood := { row := encodeDeterminedRow, standIns := [], harness := (true, "72c9db1a6ec1e694200300a047bfb27b2dd7b2f9f23a1f4a062271b7d63cbd0c"), looks := true }, kinds := [], alts := [], laidByText := true, laidKinds := [.data], laidTests := true, laidLooks := .later }
def EncodeDeterminedCardSaid : Prop := Claim7.holds Tryd.pinned (.plain (OpenSpec.ofChange encodeDeterminedSpec)) encodeDeterminedCard

/-- THE TIED CARD OF 'relyguardlaw22.EncodeStates'. -/
def encodeStatesCard : Claim7 := { stood := { row := encodeStatesRow, standIns := [], harness := (true, "72c9db1a6ec1e694200300a047bfb27b2dd7b2f9f23a1f4a062271b7d63cbd0c"), looks := true }, kinds := [], alts := [], laidByText := true, laidKinds := [.data], laidTests := true, laidLooks := .later }
def EncodeStatesCardSaid : Prop := Claim7.holds Tryd.pinned (.plain (OpenSpec.ofChange encodeStatesSpec)) encodeStatesCard

/-- THE TIED CARD OF 'relyguardlaw22.EncodeShape'. -/
def encodeShapeCard : Claim7 := { stood := { row := encodeShapeRow, standIns := [], harness := (true, "72c9db1a6ec1e694200300a047bfb27b2dd7b2f9f23a1f4a062271b7d63cbd0c"), looks := true }, kinds := [], alts := [], laidByText := true, laidKinds := [.data], laidTests := true, laidLooks := .later }
def EncodeShapeCardSaid : Prop := Claim7.holds Tryd.pinned (.plain (OpenSpec.ofChange encodeShapeSpec)) encodeShapeCard

/-- THE TIED CARD OF 'relyguardlaw22.EncodeFolding'. -/
def encodeFoldingCard : Claim7 := { stood := { row := encodeFoldingRow, standIns := [], harness := (true, "72c9db1a6ec1e694200300a047bfb27b2dd7b2f9f23a1f4a062271b7d63cbd0c"), looks := true }, kinds := [], alts := [], laidByText := true, laidKinds := [.data], laidTests := true, laidLooks := .later }
def EncodeFoldingCardSaid : Prop := Claim7.holds Tryd.pinned (.plain (OpenSpec.ofChange encodeFoldingSpec)) encodeFoldingCard

/-- THE TIED CARD OF 'relyguardlaw22.EncodeMeaning'. -/
def encodeMeaningCard : Claim7 := { stood := { row := encodeMeaningRow, standIns := [], harness := (true, "72c9db1a6ec1e694200300a047bfb27b2dd7b2f9f23a1f4a062271b7d63cbd0c"), looks := true }, kinds := [], alts := [], laidByText := true, laidKinds := [.data], laidTests := true, laidLooks := .later }
def EncodeMeaningCardSaid : Prop := Claim7.holds Tryd.pinned (.plain (OpenSpec.ofChange encodeMeaningSpec)) encodeMeaningCard

/-- THE TIED CARD OF 'relyguardlaw22.EncodeSatisfiable'. -/
def encodeSatisfiableCard : Claim7 := { stood := { row := encodeSatisfiableRow, standIns := [], harness := (true, "72c9db1a6ec1e694200300a047bfb27b2dd7b2f9f23a1f4a062271b7d63cbd0c"), looks := true }, kinds := [], alts := [], laidByText := true, laidKinds := [.data], laidTests := true, laidLooks := .later }
def EncodeSatisfiableCardSaid : Prop := Claim7.holds Tryd.pinned (.plain (OpenSpec.ofChange encodeSatisfiableSpec)) encodeSatisfiableCard

/-- THE SECOND FORM's CARD OF 'relyguardlaw22.EncodeDetermined'. -/
def encodeDeterminedUptoCard : Claim7 := { stood := { row := encodeDeterminedUptoRow, standIns := [], harness := (true, "72c9db1a6ec1e694200300a047bfb27b2dd7b2f9f23a1f4a062271b7d63cbd0c"), looks := true }, kinds := [], alts := [], laidByText := true, laidKinds := [.data], laidTests := true, laidLooks := .later }
def EncodeDeterminedUptoCardSaid : Prop := Claim7.holds Tryd.pinned (.plain (OpenSpec.upto encodeDeterminedSpec)) encodeDeterminedUptoCard

/-- THE SECOND FORM's CARD OF 'relyguardlaw22.EncodeStates'. -/
def encodeStatesUptoCard : Claim7 := { stood := { row := encodeStatesUptoRow, standIns := [], harness := (true, "72c9db1a6ec1e694200300a047bfb27b2dd7b2f9f23a1f4a062271b7d63cbd0c"), looks := true }, kinds := [], alts := [], laidByText := true, laidKinds := [.data], laidTests := true, laidLooks := .later }
def EncodeStatesUptoCardSaid : Prop := Claim7.holds Tryd.pinned (.plain (OpenSpec.upto encodeStatesSpec)) encodeStatesUptoCard

/-- THE SECOND FORM's CARD OF 'relyguardlaw22.EncodeShape'. -/
def encodeShapeUptoCard : Claim7 := { stood := { row := encodeShapeUptoRow, standIns := [], harness := (true, "72c9db1a6ec1e694200300a047bfb27b2dd7b2f9f23a1f4a062271b7d63cbd0c"), looks := true }, kinds := [], alts := [], laidByText := true, laidKinds := [.data], laidTests := true, laidLooks := .later }
def EncodeShapeUptoCardSaid : Prop := Claim7.holds Tryd.pinned (.plain (OpenSpec.upto encodeShapeSpec)) encodeShapeUptoCard

/-- THE SECOND FORM's CARD OF 'relyguardlaw22.EncodeFolding'. -/
def encodeFoldingUptoCard : Claim7 := { stood := { row := encodeFoldingUptoRow, standIns := [], harness := (true, "72c9db1a6ec1e694200300a047bfb27b2dd7b2f9f23a1f4a062271b7d63cbd0c"), looks := true }, kinds := [], alts := [], laidByText := true, laidKinds := [.data], laidTests := true, laidLooks := .later }
def EncodeFoldingUptoCardSaid : Prop := Claim7.holds Tryd.pinned (.plain (OpenSpec.upto encodeFoldingSpec)) encodeFoldingUptoCard

/-- THE SECOND FORM's CARD OF 'relyguardlaw22.EncodeMeaning'. -/
def encodeMeaningUptoCard : Claim7 := { stood := { row := encodeMeaningUptoRow, standIns := [], harness := (true, "72c9db1a6ec1e694200300a047bfb27b2dd7b2f9f23a1f4a062271b7d63cbd0c"), looks := true }, kinds := [], alts := [], laidByText := true, laidKinds := [.data], laidTests := true, laidLooks := .later }
def EncodeMeaningUptoCardSaid : Prop := Claim7.holds Tryd.pinned (.plain (OpenSpec.upto encodeMeaningSpec)) encodeMeaningUptoCard

/-- THE SECOND FORM's CARD OF 'relyguardlaw22.EncodeSatisfiable'. -/
def encodeSatisfiableUptoCard : Claim7 := { stood := { row := encodeSatisfiableUptoRow, standIns := [], harness := (true, "72c9db1a6ec1e694200300a047bfb27b2dd7b2f9f23a1f4a062271b7d63cbd0c"), looks := true }, kinds := [], alts := [], laidByText := true, laidKinds := [.data], laidTests := true, laidLooks := .later }
def EncodeSatisfiableUptoCardSaid : Prop := Claim7.holds Tryd.pinned (.plain (OpenSpec.upto encodeSatisfiableSpec)) encodeSatisfiableUptoCard
end Rows
end Go.Proofs.YtkjlefahpdconaaDoor
