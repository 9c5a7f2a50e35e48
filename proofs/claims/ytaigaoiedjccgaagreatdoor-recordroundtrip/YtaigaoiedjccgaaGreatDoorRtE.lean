/-
  A closed fact of the card. For this one row and program; no condition.
-/
import Derived.Test.YtaigaoiedjccgaaGreatDoorRows
import Derived.SevenTiedAt
import Derived.KernelRfl
set_option linter.unusedVariables false
set_option linter.unusedSimpArgs false

namespace Go.Proofs.YtaigaoiedjccgaaGreatDoor
/-- The translation bears the words of the looks. -/
theorem looksRow : true = Tryz.pinned.checked.prog.looks [] := by kernel_rfl
end Go.Proofs.YtaigaoiedjccgaaGreatDoor
