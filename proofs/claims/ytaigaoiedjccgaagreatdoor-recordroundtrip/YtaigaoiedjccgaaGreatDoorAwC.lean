/-
  A part of the run of the awake check over the fixed tables. For this one program.
-/
import Derived.Test.YtaigaoiedjccgaaGreatDoorAwB
import Derived.KernelRfl
set_option linter.unusedVariables false
set_option linter.unusedSimpArgs false

set_option maxRecDepth 100000
namespace Go.Proofs.Aw
open Go Go.Ev
theorem ok_e72_0 (old : Nat → Nat → Option AV) : EntryOk (CX old) e72_0 := entry_ok (fit_CX old) (ok_T2 old) 100000 100 (by kernel_rfl)
theorem ok_e29_1 (old : Nat → Nat → Option AV) : EntryOk (CX old) e29_1 := entry_ok (fit_CX old) (ok_T2 old) 100000 100 (by kernel_rfl)
theorem ok_e72_2 (old : Nat → Nat → Option AV) : EntryOk (CX old) e72_2 := entry_ok (fit_CX old) (ok_T2 old) 100000 100 (by kernel_rfl)
theorem ok_e29_3 (old : Nat → Nat → Option AV) : EntryOk (CX old) e29_3 := entry_ok (fit_CX old) (ok_T2 old) 100000 100 (by kernel_rfl)
theorem ok_e72_4 (old : Nat → Nat → Option AV) : EntryOk (CX old) e72_4 := entry_ok (fit_CX old) (ok_T2 old) 100000 100 (by kernel_rfl)
theorem ok_e29_5 (old : Nat → Nat → Option AV) : EntryOk (CX old) e29_5 := entry_ok (fit_CX old) (ok_T2 old) 100000 100 (by kernel_rfl)
theorem ok_e72_6 (old : Nat → Nat → Option AV) : EntryOk (CX old) e72_6 := entry_ok (fit_CX old) (ok_T2 old) 100000 100 (by kernel_rfl)
theorem ok_e31_7 (old : Nat → Nat → Option AV) : EntryOk (CX old) e31_7 := entry_ok (fit_CX old) (ok_T2 old) 100000 100 (by kernel_rfl)
theorem ok_e12_8 (old : Nat → Nat → Option AV) : EntryOk (CX old) e12_8 := entry_ok (fit_CX old) (ok_T2 old) 100000 100 (by kernel_rfl)
theorem ok_e12_9 (old : Nat → Nat → Option AV) : EntryOk (CX old) e12_9 := entry_ok (fit_CX old) (ok_T2 old) 100000 100 (by kernel_rfl)
theorem ok_e12_10 (old : Nat → Nat → Option AV) : EntryOk (CX old) e12_10 := entry_ok (fit_CX old) (ok_T2 old) 100000 100 (by kernel_rfl)
theorem ok_T3 (old : Nat → Nat → Option AV) : TabOk (CX old) T3 := .cons (ok_e72_0 old) <| .cons (ok_e29_1 old) <| .cons (ok_e72_2 old) <| .cons (ok_e29_3 old) <| .cons (ok_e72_4 old) <| .cons (ok_e29_5 old) <| .cons (ok_e72_6 old) <| .cons (ok_e31_7 old) <| .cons (ok_e12_8 old) <| .cons (ok_e12_9 old) <| .cons (ok_e12_10 old) <| ok_T2 old
end Go.Proofs.Aw
