/-
  A part of the run of the awake check over the fixed tables. For this one program.
-/
import Derived.Test.YtaigaoiedjccgaaGreatDoorAwC
import Derived.KernelRfl
set_option linter.unusedVariables false
set_option linter.unusedSimpArgs false

set_option maxRecDepth 100000
namespace Go.Proofs.Aw
open Go Go.Ev
theorem ok_e11_0 (old : Nat → Nat → Option AV) : EntryOk (CX old) e11_0 := entry_ok (fit_CX old) (ok_T3 old) 100000 100 (by kernel_rfl)
theorem ok_e6_1 (old : Nat → Nat → Option AV) : EntryOk (CX old) e6_1 := entry_ok (fit_CX old) (ok_T3 old) 100000 100 (by kernel_rfl)
theorem ok_e11_2 (old : Nat → Nat → Option AV) : EntryOk (CX old) e11_2 := entry_ok (fit_CX old) (ok_T3 old) 100000 100 (by kernel_rfl)
theorem ok_e13_3 (old : Nat → Nat → Option AV) : EntryOk (CX old) e13_3 := entry_ok (fit_CX old) (ok_T3 old) 100000 100 (by kernel_rfl)
theorem ok_T4 (old : Nat → Nat → Option AV) : TabOk (CX old) T4 := .cons (ok_e11_0 old) <| .cons (ok_e6_1 old) <| .cons (ok_e11_2 old) <| .cons (ok_e13_3 old) <| ok_T3 old
end Go.Proofs.Aw

set_option maxRecDepth 100000
namespace Go.Proofs.Aw
open Go Go.Ev
/-- The anchor, and the text that begins recordings. -/
def eAwake : Entry := ⟨5, [], [], .bool true, []⟩
def eText : Entry := ⟨18, [.str [78, 82, 49]], [], .tup [.str [78, 82, 49, 0, 1], .int .i64 0], []⟩
theorem ok_awake (old : Nat → Nat → Option AV) : EntryOk (CX old) eAwake := entry_ok (fit_CX old) (ok_T4 old) 100000 100 (by kernel_rfl)
theorem ok_text (old : Nat → Nat → Option AV) : EntryOk (CX old) eText := entry_ok (fit_CX old) TabOk.nil 100000 100 (by kernel_rfl)
def TR : List Entry := [eAwake, eText]
theorem ok_TR (old : Nat → Nat → Option AV) : TabOk (CX old) TR := .cons (ok_awake old) <| .cons (ok_text old) TabOk.nil
end Go.Proofs.Aw
