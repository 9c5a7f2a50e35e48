/-
  Some of the closed facts of the row. For this one row and program; no condition.
-/
import Derived.Test.YtaigaoiedjccgaaGreatDoorRows
import Derived.JoinedOf
import Derived.KernelRfl
set_option linter.unusedVariables false
set_option linter.unusedSimpArgs false

namespace Go.Proofs.YtaigaoiedjccgaaGreatDoor
/-- One of the row's closed facts. -/
theorem factF : laidOutB Tryz.pinned.checked.prog = true := by kernel_rfl
/-- One of the row's closed facts. -/
theorem factG : mapsRowed Tryz.pinned.checked.prog = true := by kernel_rfl
/-- One of the row's closed facts. -/
theorem factH : namedTie Tryz.pinned.checked.prog Rows.recordRoundTripRow.named Rows.recordRoundTripSpec.vars = true := by kernel_rfl
end Go.Proofs.YtaigaoiedjccgaaGreatDoor
