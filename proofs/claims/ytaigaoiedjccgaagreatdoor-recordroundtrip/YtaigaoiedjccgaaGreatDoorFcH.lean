/-
  Some of the closed facts of the row. For this one row and program; no condition.
-/
import Derived.Test.YtaigaoiedjccgaaGreatDoorRows
import Derived.JoinedOf
import Derived.KernelRfl
import Derived.Test.YtaigaoiedjccgaaGreatDoorFcB
import Derived.Test.YtaigaoiedjccgaaGreatDoorFcC
import Derived.Test.YtaigaoiedjccgaaGreatDoorFcD
import Derived.Test.YtaigaoiedjccgaaGreatDoorFcE
import Derived.Test.YtaigaoiedjccgaaGreatDoorFcF
import Derived.Test.YtaigaoiedjccgaaGreatDoorFcG
set_option linter.unusedVariables false
set_option linter.unusedSimpArgs false

namespace Go.Proofs.YtaigaoiedjccgaaGreatDoor
/-- The row's closed facts. -/
theorem facts : joinedFacts Tryz.pinned.checked.prog 3 Tryz.f3 Rows.recordRoundTripSpec Rows.recordRoundTripRow = true := by
  unfold joinedFacts
  rw [factA, factB, factC, factD, factF, factG, factH, factI, factJ, factK, factL, factM, factN, factO]
  kernel_rfl
end Go.Proofs.YtaigaoiedjccgaaGreatDoor
