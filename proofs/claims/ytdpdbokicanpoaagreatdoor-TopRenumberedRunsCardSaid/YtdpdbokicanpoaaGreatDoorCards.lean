/-
  DERIVED. GIVEN WITH THE SEED: THE CARDS: each row of YtdpdbokicanpoaaGreatDoorRows.lean that lists a variable, with what it lists TIED to the program's text (the seventh form; the later family's looks); each row that meets fmt, with fmt's text TOLD by the authors' own Lean function (tested against real Go, not proved from fmt's source: count such statements apart). THE CARD IS WHAT COUNTS. Prove the row's statement (the work); the ties are given (YtdpdbokicanpoaaGreatDoorTie.lean); close each card by the builder's one call (the guide's Derived/Test/ToyasCard.lean, 'card_holds'). Laid BY PROGRAM, IN A SANDBOX (cutbox-door.mjs). By AI agents, Wed Nov 11 2026. No macro, syntax, notation, axiom, sorry.
-/
import Derived.Test.YtdpdbokicanpoaaGreatDoorRows
import GoSem.ClaimSeven
namespace Go.Proofs.YtdpdbokicanpoaaGreatDoor
namespace Rows

/-- THE TIED CARD OF 'relyguardtop.TopRenumberedRuns'. -/
def topRenumberedRunsCard : Claim7 := { stood := { row := topRenumberedRunsRow, standIns := [], harness := (true, "481e929e10f95d8d9e32f2971ffa875cc5c9739ab9656d7a30d7a83b4ed81727"), looks := false }, kinds := [], alts := [], laidByText := true, laidKinds := [.data], laidTests := true, laidLooks := .later }
def TopRenumberedRunsCardSaid : Prop := Claim7.holds Tryz.pinned (.plain (OpenSpec.ofChange topRenumberedRunsSpec)) topRenumberedRunsCard

/-- THE TIED CARD OF 'relyguardtop.TopDrainedRuns'. -/
def topDrainedRunsCard : Claim7 := { stood := { row := topDrainedRunsRow, standIns := [], harness := (true, "481e929e10f95d8d9e32f2971ffa875cc5c9739ab9656d7a30d7a83b4ed81727"), looks := false }, kinds := [], alts := [], laidByText := true, laidKinds := [.data], laidTests := true, laidLooks := .later }
def TopDrainedRunsCardSaid : Prop := Claim7.holds Tryz.pinned (.plain (OpenSpec.ofChange topDrainedRunsSpec)) topDrainedRunsCard

/-- THE TIED CARD OF 'relyguardtop.TopReachedRuns'. -/
def topReachedRunsCard : Claim7 := { stood := { row := topReachedRunsRow, standIns := [], harness := (true, "481e929e10f95d8d9e32f2971ffa875cc5c9739ab9656d7a30d7a83b4ed81727"), looks := false }, kinds := [], alts := [], laidByText := true, laidKinds := [.data], laidTests := true, laidLooks := .later }
def TopReachedRunsCardSaid : Prop := Claim7.holds Tryz.pinned (.plain (OpenSpec.ofChange topReachedRunsSpec)) topReachedRunsCard

/-- THE SECOND FORM's CARD OF 'relyguardtop.TopRenumberedRuns'. -/
def topRenumberedRunsUptoCard : Claim7 := { stood := { row := topRenumberedRunsUptoRow, standIns := [], harness := (true, "481e929e10f95d8d9e32f2971ffa875cc5c9739ab9656d7a30d7a83b4ed81727"), looks := false }, kinds := [], alts := [], laidByText := true, laidKinds := [.data], laidTests := true, laidLooks := .later }
def TopRenumberedRunsUptoCardSaid : Prop := Claim7.holds Tryz.pinned (.plain (OpenSpec.upto topRenumberedRunsSpec)) topRenumberedRunsUptoCard

/-- THE SECOND FORM's CARD OF 'relyguardtop.TopDrainedRuns'. -/
def topDrainedRunsUptoCard : Claim7 := { stood := { row := topDrainedRunsUptoRow, standIns := [], harness := (true, "481e929e10f95d8d9e32f2971ffa875cc5c9739ab9656d7a30d7a83b4ed81727"), looks := false }, kinds := [], alts := [], laidByText := true, laidKinds := [.data], laidTests := true, laidLooks := .later }
def TopDrainedRunsUptoCardSaid : Prop := Claim7.holds Tryz.pinned (.plain (OpenSpec.upto topDrainedRunsSpec)) topDrainedRunsUptoCard

/-- THE SECOND FORM's CARD OF 'relyguardtop.TopReachedRuns'. -/
def topReachedRunsUptoCard : Claim7 := { stood := { row := topReachedRunsUptoRow, standIns := [], harness := (true, "481e929e10f95d8d9e32f2971ffa875cc5c9739ab9656d7a30d7a83b4ed81727"), looks := false }, kinds := [], alts := [], laidByText := true, laidKinds := [.data], laidTests := true, laidLooks := .later }
def TopReachedRunsUptoCardSaid : Prop := Claim7.holds Tryz.pinned (.plain (OpenSpec.upto topReachedRunsSpec)) topReachedRunsUptoCard
end Rows
end Go.Proofs.YtdpdbokicanpoaaGreatDoor
