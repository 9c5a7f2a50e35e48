/-
  Some of the closed facts of the row. For this one row and program; no condition.
-/
import Derived.Test.YtaigaoiedjccgaaGreatDoorRows
import Derived.JoinedOf
import Derived.KernelRfl
import Derived.Test.YtaigaoiedjccgaaGreatDoorFcA
set_option linter.unusedVariables false
set_option linter.unusedSimpArgs false

namespace Go.Proofs.YtaigaoiedjccgaaGreatDoor
/-- One of the row's closed facts: the cell 'named'. -/
theorem factD : (Rows.recordRoundTripRow.named == Tryz.pinned.checked.prog.varsNamed 3) = true := by
  unfold Program.varsNamed
  rw [clo]
  kernel_rfl
end Go.Proofs.YtaigaoiedjccgaaGreatDoor
