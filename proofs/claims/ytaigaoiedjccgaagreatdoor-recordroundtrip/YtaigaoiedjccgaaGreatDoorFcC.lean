/-
  Some of the closed facts of the row. For this one row and program; no condition.
-/
import Derived.Test.YtaigaoiedjccgaaGreatDoorRows
import Derived.JoinedOf
import Derived.KernelRfl
import Derived.Test.YtaigaoiedjccgaaGreatDoorFcA
set_option linter.unusedVariables false
set_option linter.unusedSimpArgs false

namespace Go.Proofs.YtaigaoiedjccgaaGreatDoor
/-- One of the row's closed facts: the cell 'unfollowed'. -/
theorem factB : (Rows.recordRoundTripRow.unfollowed == Tryz.pinned.checked.prog.unfollowed 3) = true := by
  unfold Program.unfollowed
  rw [clo]
  kernel_rfl
/-- One of the row's closed facts: the cell 'recurses'. -/
theorem factC : (Rows.recordRoundTripRow.recurses == Tryz.pinned.checked.prog.recurses 3) = true := by
  have h : Tryz.pinned.checked.prog.unfollowed 3 = true := (eq_of_beq factB).symm
  unfold Program.recurses
  rw [h, Bool.true_or]
  rfl
end Go.Proofs.YtaigaoiedjccgaaGreatDoor
