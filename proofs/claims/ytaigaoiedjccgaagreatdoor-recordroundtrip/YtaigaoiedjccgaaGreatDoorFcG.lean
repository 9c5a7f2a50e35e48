/-
  Some of the closed facts of the row. For this one row and program; no condition.
-/
import Derived.Test.YtaigaoiedjccgaaGreatDoorRows
import Derived.JoinedOf
import Derived.KernelRfl
set_option linter.unusedVariables false
set_option linter.unusedSimpArgs false

namespace Go.Proofs.YtaigaoiedjccgaaGreatDoor
/-- One of the row's closed facts. -/
theorem factM : (Rows.recordRoundTripRow.plainKeys == Tryz.pinned.checked.prog.plainKeys) = true := by kernel_rfl
/-- One of the row's closed facts. -/
theorem factN : (Rows.recordRoundTripRow.lifted == Tryz.pinned.checked.prog.liftsFinal) = true := by kernel_rfl
/-- One of the row's closed facts. -/
theorem factO : (Tryz.pinned.checked.prog.make == some Rows.recordRoundTripRow.make) = true := by kernel_rfl
end Go.Proofs.YtaigaoiedjccgaaGreatDoor
