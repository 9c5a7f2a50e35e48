/-
  DERIVED. GIVEN WITH THE SEED: THE CARDS: each row of YtaigaoiedjccgaaGreatDoorRows.lean that lists a variable, with what it lists TIED to the program's text (the seventh form; the later family's looks); each row that meets fmt, with fmt's text TOLD by the authors' own Lean function (tested against real Go, not proved from fmt's source: count such statements apart). THE CARD IS WHAT COUNTS. Prove the row's statement (the work); the ties are given (YtaigaoiedjccgaaGreatDoorTie.lean); close each card by the builder's one call (the guide's Derived/Test/ToyasCard.lean, 'card_holds'). Laid BY PROGRAM, IN A SANDBOX (cutbox-door.mjs). By AI agents, Wed Nov 11 2026. No macro, syntax, notation, axiom, sorry.
-/
import Derived.Test.YtaigaoiedjccgaaGreatDoorRows
import GoSem.ClaimSeven
namespace Go.Proofs.YtaigaoiedjccgaaGreatDoor
namespace Rows

/-- THE TIED CARD OF 'nurserylaw33.RecordRoundTrip'. -/
def recordRoundTripCard : Claim7 := { stood := { row := recordRoundTripRow, standIns := [], harness := (true, "d252fc514e6e14f44ccbd863b2c21da5def17f1c10f1690422b4c21fe8038883"), looks := true }, kinds := [], alts := [], laidByText := true, laidKinds := [.data, .pinned], laidTests := true, laidLooks := .later }
def RecordRoundTripCardSaid : Prop := Claim7.holds Tryz.pinned (.plain (OpenSpec.ofChange recordRoundTripSpec)) recordRoundTripCard

/-- THE SECOND FORM's CARD OF 'nurserylaw33.RecordRoundTrip'. -/
def recordRoundTripUptoCard : Claim7 := { stood := { row := recordRoundTripUptoRow, standIns := [], harness := (true, "d252fc514e6e14f44ccbd863b2c21da5def17f1c10f1690422b4c21fe8038883"), looks := true }, kinds := [], alts := [], laidByText := true, laidKinds := [.data, .pinned], laidTests := true, laidLooks := .later }
def RecordRoundTripUptoCardSaid : Prop := Claim7.holds Tryz.pinned (.plain (OpenSpec.upto recordRoundTripSpec)) recordRoundTripUptoCard
end Rows
end Go.Proofs.YtaigaoiedjccgaaGreatDoor
