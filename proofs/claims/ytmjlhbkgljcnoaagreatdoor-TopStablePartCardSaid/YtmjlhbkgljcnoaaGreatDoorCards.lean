/-
  DERIVED. GIVEN WITH THE SEED: THE CARDS: each row of YtmjlhbkgljcnoaaGreatDoorRows.lean that lists a variable, with what it lists TIED to the program's text (the seventh form; the later family's looks); each row that meets fmt, with fmt's text TOLD by the authors' own Lean function (tested against real Go, not proved from fmt's source: count such statements apart). THE CARD IS WHAT COUNTS. Prove the row's statement (the work); the ties are given (YtmjlhbkgljcnoaaGreatDoorTie.lean); close each card by the builder's one call (the guide's Derived/Test/ToyasCard.lean, 'card_holds'). Laid BY PROGRAM, IN A SANDBOX (cutbox-door.mjs). By AI agents, Wed Nov 11 2026. No macro, syntax, notation, axiom, sorry.
-/
import Derived.Test.YtmjlhbkgljcnoaaGreatDoorRows
import GoSem.ClaimSeven
namespace Go.Proofs.YtmjlhbkgljcnoaaGreatDoor
namespace Rows

/-- THE TIED CARD OF 'relyguardtop.TopStablePart'. -/
def topStablePartCard : Claim7 := { stood := { row := topStablePartRow, standIns := [], harness := (true, "faafae5318d31c4a2ea3cad26621b79f3e2d71e7677a96a01ba1b03cea25d6f2"), looks := false }, kinds := [], alts := [], laidByText := true, laidKinds := [.data, .data], laidTests := true, laidLooks := .later }
def TopStablePartCardSaid : Prop := Claim7.holds Tryz.pinned (.plain (OpenSpec.ofChange topStablePartSpec)) topStablePartCard

/-- THE SECOND FORM's CARD OF 'relyguardtop.TopStablePart'. -/
def topStablePartUptoCard : Claim7 := { stood := { row := topStablePartUptoRow, standIns := [], harness := (true, "faafae5318d31c4a2ea3cad26621b79f3e2d71e7677a96a01ba1b03cea25d6f2"), looks := false }, kinds := [], alts := [], laidByText := true, laidKinds := [.data, .data], laidTests := true, laidLooks := .later }
def TopStablePartUptoCardSaid : Prop := Claim7.holds Tryz.pinned (.plain (OpenSpec.upto topStablePartSpec)) topStablePartUptoCard
end Rows
end Go.Proofs.YtmjlhbkgljcnoaaGreatDoor
