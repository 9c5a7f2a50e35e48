/-
  A part of the run of the awake check over the fixed tables. For this one program.
-/
import Derived.Test.YtaigaoiedjccgaaGreatDoorAwA
import Derived.KernelRfl
set_option linter.unusedVariables false
set_option linter.unusedSimpArgs false

set_option maxRecDepth 100000
namespace Go.Proofs.Aw
open Go Go.Ev
theorem ok_e28_0 (old : Nat → Nat → Option AV) : EntryOk (CX old) e28_0 := entry_ok (fit_CX old) (ok_T1 old) 100000 100 (by kernel_rfl)
theorem ok_e38_1 (old : Nat → Nat → Option AV) : EntryOk (CX old) e38_1 := entry_ok (fit_CX old) (ok_T1 old) 100000 100 (by kernel_rfl)
theorem ok_e114_2 (old : Nat → Nat → Option AV) : EntryOk (CX old) e114_2 := entry_ok (fit_CX old) (ok_T1 old) 100000 100 (by kernel_rfl)
theorem ok_e126_3 (old : Nat → Nat → Option AV) : EntryOk (CX old) e126_3 := entry_ok (fit_CX old) (ok_T1 old) 100000 100 (by kernel_rfl)
theorem ok_e38_4 (old : Nat → Nat → Option AV) : EntryOk (CX old) e38_4 := entry_ok (fit_CX old) (ok_T1 old) 100000 100 (by kernel_rfl)
theorem ok_e114_5 (old : Nat → Nat → Option AV) : EntryOk (CX old) e114_5 := entry_ok (fit_CX old) (ok_T1 old) 100000 100 (by kernel_rfl)
theorem ok_e126_6 (old : Nat → Nat → Option AV) : EntryOk (CX old) e126_6 := entry_ok (fit_CX old) (ok_T1 old) 100000 100 (by kernel_rfl)
theorem ok_e38_7 (old : Nat → Nat → Option AV) : EntryOk (CX old) e38_7 := entry_ok (fit_CX old) (ok_T1 old) 100000 100 (by kernel_rfl)
theorem ok_e114_8 (old : Nat → Nat → Option AV) : EntryOk (CX old) e114_8 := entry_ok (fit_CX old) (ok_T1 old) 100000 100 (by kernel_rfl)
theorem ok_e126_9 (old : Nat → Nat → Option AV) : EntryOk (CX old) e126_9 := entry_ok (fit_CX old) (ok_T1 old) 100000 100 (by kernel_rfl)
theorem ok_e38_10 (old : Nat → Nat → Option AV) : EntryOk (CX old) e38_10 := entry_ok (fit_CX old) (ok_T1 old) 100000 100 (by kernel_rfl)
theorem ok_e114_11 (old : Nat → Nat → Option AV) : EntryOk (CX old) e114_11 := entry_ok (fit_CX old) (ok_T1 old) 100000 100 (by kernel_rfl)
theorem ok_e126_12 (old : Nat → Nat → Option AV) : EntryOk (CX old) e126_12 := entry_ok (fit_CX old) (ok_T1 old) 100000 100 (by kernel_rfl)
theorem ok_e41_13 (old : Nat → Nat → Option AV) : EntryOk (CX old) e41_13 := entry_ok (fit_CX old) (ok_T1 old) 100000 100 (by kernel_rfl)
theorem ok_e41_14 (old : Nat → Nat → Option AV) : EntryOk (CX old) e41_14 := entry_ok (fit_CX old) (ok_T1 old) 100000 100 (by kernel_rfl)
theorem ok_e41_15 (old : Nat → Nat → Option AV) : EntryOk (CX old) e41_15 := entry_ok (fit_CX old) (ok_T1 old) 100000 100 (by kernel_rfl)
theorem ok_e41_16 (old : Nat → Nat → Option AV) : EntryOk (CX old) e41_16 := entry_ok (fit_CX old) (ok_T1 old) 100000 100 (by kernel_rfl)
theorem ok_T2 (old : Nat → Nat → Option AV) : TabOk (CX old) T2 := .cons (ok_e28_0 old) <| .cons (ok_e38_1 old) <| .cons (ok_e114_2 old) <| .cons (ok_e126_3 old) <| .cons (ok_e38_4 old) <| .cons (ok_e114_5 old) <| .cons (ok_e126_6 old) <| .cons (ok_e38_7 old) <| .cons (ok_e114_8 old) <| .cons (ok_e126_9 old) <| .cons (ok_e38_10 old) <| .cons (ok_e114_11 old) <| .cons (ok_e126_12 old) <| .cons (ok_e41_13 old) <| .cons (ok_e41_14 old) <| .cons (ok_e41_15 old) <| .cons (ok_e41_16 old) <| ok_T1 old
end Go.Proofs.Aw
