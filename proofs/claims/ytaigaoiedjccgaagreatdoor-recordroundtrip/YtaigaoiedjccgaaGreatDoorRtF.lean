/-
  Closed facts of the card. For this one row and program; no condition.
-/
import Derived.Test.YtaigaoiedjccgaaGreatDoorRows
import Derived.SevenTiedAt
import Derived.KernelRfl
set_option linter.unusedVariables false
set_option linter.unusedSimpArgs false

namespace Go.Proofs.YtaigaoiedjccgaaGreatDoor
theorem wfRow : Rows.recordRoundTripRow.wfByText (OpenSpec.ofChange Rows.recordRoundTripSpec) = true := by kernel_rfl
theorem mainRow : Tryz.pinned.checked.prog.mainIs = some (true, "d252fc514e6e14f44ccbd863b2c21da5def17f1c10f1690422b4c21fe8038883".toList) := by kernel_rfl
theorem standRow : ([25, 9].all fun u => !Tryz.prog.wantsStandIn u) = true := by kernel_rfl
end Go.Proofs.YtaigaoiedjccgaaGreatDoor
