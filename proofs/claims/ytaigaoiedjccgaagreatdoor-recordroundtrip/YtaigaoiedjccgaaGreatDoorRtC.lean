/-
  The row of RecordRoundTrip holds. For every recording and every text; the package variables that the row lists start as the text of the program lays them.
-/
import Derived.Test.YtaigaoiedjccgaaGreatDoorRtB
import Derived.Test.YtaigaoiedjccgaaGreatDoorFcH
import Derived.Test.YtaigaoiedjccgaaGreatDoorRows
import Derived.JoinedOf
import Derived.KernelRfl
set_option linter.unusedVariables false
set_option linter.unusedSimpArgs false

namespace Go.Proofs.YtaigaoiedjccgaaGreatDoor
open Go.ChangeShapes Go.WideShapes Go.ChangeAt Go.RowKit Go.Joins Go.Deep
theorem over_n : Tryz.pinned.checked.prog.funcNamed Rows.recordRoundTripRow.func = some 3 := by kernel_rfl
theorem over_i : Tryz.f3.isInstance Tryz.pinned.checked.prog Rows.recordRoundTripRow.origin Rows.recordRoundTripRow.targs := of_decide_eq_true (by kernel_rfl)
theorem over_w : Tryz.f3.isWrapper Tryz.pinned.checked.prog Rows.recordRoundTripRow.wrapper Rows.recordRoundTripRow.mainSum := by unfold Func.isWrapper; first | (rw [if_pos (by decide +kernel)]; kernel_rfl) | (rw [if_neg (by decide +kernel)]; exact ⟨rfl, rfl⟩)
theorem over : Rows.recordRoundTripRow.holds Tryz.pinned (OpenSpec.ofChange Rows.recordRoundTripSpec) :=
  OpenClaim.holds_of_wide 3 Tryz.f3 rfl rfl rfl rfl rfl rfl rfl ⟨rfl, rfl, rfl, rfl, rfl⟩ rfl rfl rfl rfl rfl over_n Tryz.func3 facts over_i over_w
    (fun os started H enc _ => lifted os started H enc)
end Go.Proofs.YtaigaoiedjccgaaGreatDoor
