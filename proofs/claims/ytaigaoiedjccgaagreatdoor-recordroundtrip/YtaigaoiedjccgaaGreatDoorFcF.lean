/-
  Some of the closed facts of the row. For this one row and program; no condition.
-/
import Derived.Test.YtaigaoiedjccgaaGreatDoorRows
import Derived.JoinedOf
import Derived.KernelRfl
set_option linter.unusedVariables false
set_option linter.unusedSimpArgs false

namespace Go.Proofs.YtaigaoiedjccgaaGreatDoor
/-- One of the row's closed facts. -/
theorem factI : (Tryz.pinned.checked.prog.stops == []) = true := by kernel_rfl
/-- One of the row's closed facts. -/
theorem factJ : (Tryz.pinned.checked.prog.stopKnobs == []) = true := by kernel_rfl
/-- One of the row's closed facts. -/
theorem factK : Tryz.pinned.checked.prog.stopsHeard = true := by kernel_rfl
/-- One of the row's closed facts. -/
theorem factL : Tryz.pinned.checked.prog.mayEnter = true := by kernel_rfl
end Go.Proofs.YtaigaoiedjccgaaGreatDoor
